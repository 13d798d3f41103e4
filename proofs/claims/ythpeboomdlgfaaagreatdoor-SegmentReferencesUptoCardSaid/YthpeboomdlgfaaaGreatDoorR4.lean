/- SegmentReferences: for every input of bulk at most 1048576 the law returns true and leaves its arguments as they were. This is part 4 of 6. Conditions: those in the statements. -/
import Derived.Test.YthpeboomdlgfaaaGreatDoorProg
import Derived.Test.YthpeboomdlgfaaaGreatDoorRows
import Derived.Test.YthpeboomdlgfaaaGreatDoorR3
import Derived.KernelRfl
import Derived.Conc.MuLone
import Derived.ProofKit
import Derived.OpenShut
import Derived.ShutString
import Derived.ChangeOld
import Derived.Below
import Derived.SizedLaws
import Derived.Deep.Slices
import Derived.Lib.LaidU8
import Derived.Shelf.Vars
import Derived.MakeChecks
import Derived.Lib.Split
import Derived.Lib.AtoiAll
import Derived.Lib.ValidU
import Derived.Shelf.Small.Bits
import Derived.Shelf.Utf8.RuneCount
import Derived.Shelf.Strconv.Atoi
import Derived.Shelf.Strconv.Itoa0
import Derived.Shelf.Strconv.Itoa1
import Derived.Shelf.LaysM
import Derived.Shelf.Strconv.AtoiErrFast
import Derived.Shelf.Strconv.ParseIntEmpty
import Derived.Shelf.Strconv.AtoiFail
import Derived.Shelf.Strconv.Clone
import Derived.Shelf.Strconv.SyntaxError
import Derived.Shelf.LaysC
import Derived.Shelf.Strconv.ToError
import Derived.Shelf.Strconv.Lower
import Derived.Shelf.Strconv.ParseUint10
import Derived.Shelf.Strconv.ParseUint10Empty
import Derived.Shelf.Strconv.ParseUint10Any
import Derived.Shelf.Strconv.ParseInt10
import Derived.Shelf.Strconv.AtoiLong
import Derived.Shelf.Strconv.AtoiInnerAll
import Derived.Shelf.Strconv.RangeError
import Derived.Shelf.Strconv.ToErrorRange
import Derived.Shelf.Strconv.AtoiAll
import Derived.Shelf.Strconv.ErrVarAll
import Derived.Shelf.Strings.Search1
import Derived.Shelf.Strings.Search2
import Derived.Shelf.Strings.Search3
import Derived.Shelf.Strings.Count
import Derived.Shelf.Strings.Shaped
import Derived.Shelf.Sort.Plain
import Derived.Shelf.Strings.Split
import Derived.Shelf.Unicode.DecodeSlow
import Derived.Shelf.Unicode.DecodeAny
import Derived.Ground.Names2Prog
import Derived.Shelf.Slices.Clone
import Derived.Shelf.Slices.CompactS
import Derived.Shelf.Slices.SearchI
import Derived.Shelf.Slices.Delete
import Derived.Shelf.Slices.Cells
import Derived.Shelf.Slices.In.SortNone
import Derived.Shelf.Slices.Empties
import Derived.Ground.SlgnProg
import Derived.Shelf.SlicesE.Clone
import Derived.Ground.NamesProg
import Derived.Shelf.Unicode.ValidAny
import Derived.Shelf.SlIter.Sorted
import Derived.Ground.GgzProg
import Derived.Shelf.SlIter.Collect
import Derived.WalkKit
import Derived.OwnWalkIn
import Derived.TacticsInMore
import Derived.LoopNIn
import Derived.LoopIn
import Derived.RangeFuncLeaves
section
section
namespace Go.Fx
open Go Go.RowKit Go.Fl Go.Fl.Lk
variable {S : Sig} {A : Type}
def Ev.with (E : Ev S) (g : Nat) (c : Con S) : Ev S := { E with con := fun k => bif Nat.beq k g then some c else E.con k }
theorem with_ok {E : Ev S} (hE : EvOk E) {g : Nat} {c : Con S} (hen : Ent E.P g) (hc : Meets E.P E.D g c) : EvOk (E.with g c) := by
  refine ⟨hE.hP, hE.mix, fun k c' hk => ?_, hE.inl⟩
  simp only [Ev.with] at hk
  cases hb : Nat.beq k g with
  | true =>
    rw [hb] at hk
    cases hk
    rw [Nat.eq_of_beq_eq_true hb]
    exact ⟨hen, hc⟩
  | false => rw [hb] at hk; exact hE.con k c' hk
end Go.Fx
end
/- Contracts in readable form: arguments and results as tuples. Conditions: those in the statements. -/
section
namespace Go.Fx
open Go Go.RowKit Go.Fl Go.Fl.Lk
variable {S : Sig}
/-- What an argument or a result looks like. -/
inductive VT (S : Sig) : Type where
  | int (k : IntKind)
  | bool
  | str
  | ifc
  | sl (T : S.C)
  | vec (e : TypeId) (T : S.C)
  | el (T : S.C)
  | map (K V : S.C)
  | same
  | ptr (ty : TypeId) (l : List (VT S))
mutual
def VT.ty : VT S → Type
  | .int _ => Int
  | .bool => Bool
  | .str => ByteArray
  | .ifc => Bool
  | .sl T => List (S.car T)
  | .vec _ T => List (S.car T)
  | .el T => S.car T
  | .map K V => S.car K → Option (S.car V)
  | .same => Unit
  | .ptr _ l => TL l
def TL : List (VT S) → Type
  | [] => Unit
  | v :: l => v.ty × TL l
end
mutual
def VT.put : (v : VT S) → v.ty → Tr S
  | .int k, x => .f (.int k x)
  | .bool, x => .f (.bool x)
  | .str, x => .f (.str x)
  | .ifc, x => .f (.ifc x)
  | .sl T, x => .f (.sl T x)
  | .vec e T, x => .vec e T x
  | .el T, x => .el T x
  | .map K V, x => .map K V x
  | .same, _ => .same
  | .ptr ty l, x => .ptr ty (putL l x)
def putL : (l : List (VT S)) → TL l → List (Tr S)
  | [], _ => []
  | v :: l, x => v.put x.1 :: putL l x.2
end
mutual
def VT.get : (v : VT S) → Tr S → Option v.ty
  | .int k, t => match t with
    | .f (.int k' n) => bif k' == k then some n else none
    | _ => none
  | .bool, t => match t with
    | .f (.bool b) => some b
    | _ => none
  | .str, t => match t with
    | .f (.str b) => some b
    | _ => none
  | .ifc, t => match t with
    | .f (.ifc b) => some b
    | _ => none
  | .sl T, t => match t with
    | .f (.sl T' l) => match S.dec T' T with
      | isTrue h => some (h ▸ l)
      | isFalse _ => none
    | _ => none
  | .vec e T, t => match t with
    | .vec e' T' l => bif Nat.beq e' e then (match S.dec T' T with
      | isTrue h => some (h ▸ l)
      | isFalse _ => none) else none
    | _ => none
  | .el T, t => match t with
    | .el T' l => match S.dec T' T with
      | isTrue h => some (h ▸ l)
      | isFalse _ => none
    | _ => none
  | .map K V, t => match t with
    | .map K' V' F => match S.dec K' K, S.dec V' V with
      | isTrue h, isTrue h' => some (h ▸ h' ▸ F)
      | _, _ => none
    | _ => none
  | .same, t => match t with
    | .same => some ()
    | _ => none
  | .ptr ty l, t => match t with
    | .ptr ty' ts => bif Nat.beq ty' ty then getL l ts else none
    | _ => none
def getL : (l : List (VT S)) → List (Tr S) → Option (TL l)
  | [], [] => some ()
  | v :: l, t :: ts => match v.get t, getL l ts with
    | some x, some y => some (x, y)
    | _, _ => none
  | _, _ => none
end
theorem bif_some {α : Type} {c : Bool} {x : Option α} {y : α} (h : (bif c then x else none) = some y) : c = true ∧ x = some y := by
  cases c with
  | true => exact ⟨rfl, h⟩
  | false => cases h
theorem ik_eq {a b : IntKind} (h : (a == b) = true) : a = b := by cases a <;> cases b <;> first | rfl | exact absurd h (by decide)
mutual
theorem VT.get_put : ∀ {v : VT S} {t : Tr S} {x : v.ty}, v.get t = some x → v.put x = t
  | .int k, t, x, h => by
    unfold VT.get at h
    split at h
    case h_2 => cases h
    obtain ⟨h1, h2⟩ := bif_some h
    cases h2
    rw [ik_eq h1]; rfl
  | .bool, t, x, h => by
    unfold VT.get at h
    split at h
    case h_2 => cases h
    cases h; rfl
  | .str, t, x, h => by
    unfold VT.get at h
    split at h
    case h_2 => cases h
    cases h; rfl
  | .ifc, t, x, h => by
    unfold VT.get at h
    split at h
    case h_2 => cases h
    cases h; rfl
  | .sl T, t, x, h => by
    unfold VT.get at h
    split at h
    case h_2 => cases h
    split at h
    case h_2 => cases h
    rename_i e _
    subst e
    cases h; rfl
  | .vec e T, t, x, h => by
    unfold VT.get at h
    split at h
    case h_2 => cases h
    obtain ⟨h1, h⟩ := bif_some h
    split at h
    case h_2 => cases h
    rename_i e _
    subst e
    cases h
    rw [Nat.eq_of_beq_eq_true h1]; rfl
  | .el T, t, x, h => by
    unfold VT.get at h
    split at h
    case h_2 => cases h
    split at h
    case h_2 => cases h
    rename_i e _
    subst e
    cases h; rfl
  | .map K V, t, x, h => by
    unfold VT.get at h
    split at h
    case h_2 => cases h
    split at h
    case h_2 => cases h
    rename_i e1 e2 _ _
    subst e1 e2
    cases h; rfl
  | .same, t, x, h => by
    unfold VT.get at h
    split at h
    case h_2 => cases h
    rfl
  | .ptr ty l, t, x, h => by
    unfold VT.get at h
    split at h
    case h_2 => cases h
    obtain ⟨h1, h⟩ := bif_some h
    rw [← getL_putL h, Nat.eq_of_beq_eq_true h1]; rfl
theorem getL_putL : ∀ {l : List (VT S)} {ts : List (Tr S)} {x : TL l}, getL l ts = some x → putL l x = ts
  | [], ts, x, h => by
    cases ts with
    | nil => rfl
    | cons => cases h
  | v :: l, ts, x, h => by
    cases ts with
    | nil => cases h
    | cons t ts =>
      simp only [getL] at h
      split at h
      case h_2 => cases h
      rename_i a b h1 h2
      cases h
      show v.put a :: putL l b = t :: ts
      rw [VT.get_put h1, getL_putL h2]
end
/-- A contract by what it says of tuples. -/
def conV (pk : List (PK S)) (av rv ov : List (VT S)) (P : TL av → (TL rv → TL ov → Prop) → Prop) : Con S :=
  ⟨pk, fun args K => optK (getL av args) fun a => P a fun r o => K (putL rv r) (putL ov o)⟩
def fnV (E : Ev S) (fuel g : Nat) (pk rk : List (PK S)) (av rv ov : List (VT S)) (a : TL av) (K : TL rv → TL ov → Prop) : Prop :=
  fnVC E fuel g pk rk (putL av a) fun rets outs => optK (getL rv rets) fun r => optK (getL ov outs) fun o => K r o
theorem Back.mono {D : Shp S} {σ : Hv} {w : World} {args : List (Tr S)} {vals : List Value} {ins : List HObj} {K K' : List (Tr S) → List (Tr S) → Prop} {e : Ending} {w1 : World} (h : ∀ r o, K r o → K' r o) : Back D σ w args vals ins K e w1 → Back D σ w args vals ins K' e w1 := by
  rintro ⟨rets, outs, rv, σ1, msr, mso, h1, h2, h3⟩
  exact ⟨rets, outs, rv, σ1, msr, mso, h1, h _ _ h2, h3⟩
theorem viewK {rv ov : List (VT S)} {K : List (Tr S) → List (Tr S) → Prop} {rets outs : List (Tr S)} (h : optK (getL rv rets) fun r => optK (getL ov outs) fun o => K (putL rv r) (putL ov o)) : K rets outs := by
  obtain ⟨r, hr, h⟩ := optK_some h
  obtain ⟨o, ho, h⟩ := optK_some h
  rw [getL_putL hr, getL_putL ho] at h
  exact h
theorem fnV_ok {E : Ev S} (hE : EvOk E) {fuel g : Nat} {pk rk : List (PK S)} {av rv ov : List (VT S)} {a : TL av} {K : TL rv → TL ov → Prop} (h : fnV E fuel g pk rk av rv ov a K) {w : World} {σ : Hv} {vals : List Value} {ins : List HObj}
    (hgl : Glb E.D σ) (hL : LayL E.D σ (putL av a) vals ins) (hS : St ⟨w, σ, feet ins⟩ w σ ins) : Calls E.P g vals.toArray w (Back E.D σ w (putL av a) vals ins fun rets outs => optK (getL rv rets) fun r => optK (getL ov outs) fun o => K r o) :=
  fn_ok hE fuel g pk rk (putL av a) (fun rets outs => optK (getL rv rets) fun r => optK (getL ov outs) fun o => K r o) h w σ vals ins hgl hL hS
theorem meetsV {E : Ev S} (hE : EvOk E) (fuel g : Nat) (pk rk : List (PK S)) (av rv ov : List (VT S)) : Meets E.P E.D g (conV pk av rv ov (fnV E fuel g pk rk av rv ov)) := by
  intro args K hm w σ vals ins hgl hL hS
  obtain ⟨a, ha, hm2⟩ := optK_some hm
  have hw := getL_putL ha
  subst hw
  exact Calls.mono (fnV_ok hE hm2 hgl hL hS) fun e w1 h => h.mono fun r o h => viewK h
/-- A function that calls itself. -/
def fixV (E : Ev S) (fuel g : Nat) (pk rk : List (PK S)) (av rv ov : List (VT S)) (a : TL av) (K : TL rv → TL ov → Prop) : Prop :=
  ∀ X : TL av → (TL rv → TL ov → Prop) → Prop, (∀ a K, fnV (E.with g (conV pk av rv ov X)) fuel g pk rk av rv ov a K → X a K) → X a K
theorem meetsX {E : Ev S} (hE : EvOk E) {fuel g : Nat} {pk rk : List (PK S)} {av rv ov : List (VT S)} (hen : Ent E.P g) : Meets E.P E.D g (conV pk av rv ov (fixV E fuel g pk rk av rv ov)) := by
  intro args K hm w σ vals ins hgl hL hS
  obtain ⟨a, ha, hm2⟩ := optK_some hm
  have hw := getL_putL ha
  subst hw
  have key := hm2 (fun a K => ∀ (w : World) (σ : Hv) (vals : List Value) (ins : List HObj), Glb E.D σ → LayL E.D σ (putL av a) vals ins → St ⟨w, σ, feet ins⟩ w σ ins → Calls E.P g vals.toArray w (Back E.D σ w (putL av a) vals ins fun rets outs => optK (getL rv rets) fun r => optK (getL ov outs) fun o => K r o)) (fun a K hvc => by
    intro w σ vals ins hgl hL hS
    refine fnV_ok (with_ok hE hen ?_) hvc hgl hL hS
    intro args K hm w σ vals ins hgl hL hS
    obtain ⟨a, ha, hm2⟩ := optK_some hm
    have hw := getL_putL ha
    subst hw
    exact Calls.mono (hm2 w σ vals ins hgl hL hS) fun e w1 h => h.mono fun r o h => viewK h) w σ vals ins hgl hL hS
  exact Calls.mono key fun e w1 h => h.mono fun r o h => viewK h
theorem meets_mono {P : Program} {D : Shp S} {g : Nat} {pk : List (PK S)} {av rv ov : List (VT S)} {A B : TL av → (TL rv → TL ov → Prop) → Prop} (h : ∀ a K, A a K → B a K) (hB : Meets P D g (conV pk av rv ov B)) : Meets P D g (conV pk av rv ov A) := by
  intro args K hm
  obtain ⟨a, ha, hm2⟩ := optK_some hm
  refine hB args K ?_
  show optK (getL av args) _
  rw [ha]
  exact h a _ hm2
/-- With other specs. -/
def Ev.pl (E : Ev S) (p : Nat → Option (Spec S)) : Ev S := { E with plan := p }
theorem pl_ok {E : Ev S} (hE : EvOk E) (p : Nat → Option (Spec S)) : EvOk (E.pl p) := ⟨hE.hP, hE.mix, hE.con, hE.inl⟩
theorem ent_of {P : Program} {g : Nat} {fn : Func} {c : Code} (hf : P.funcs[g]? = some fn) (hn : (fn.name == "runtime.NumGoroutine") = false) (hb : fn.body = some c) : Ent P g := by
  intro args w
  have h1 : fn.name ≠ "runtime.NumGoroutine" := by simpa using hn
  simp [callFunc, hf, h1, hb]
/-- A function of the program by its number. -/
theorem ent_at {P : Program} {g : Nat} (hf : P.funcs[g]? = some ((P.funcs[g]?).getD default)) (hn : (((P.funcs[g]?).getD default).name == "runtime.NumGoroutine") = false) (hb : ((P.funcs[g]?).getD default).body = some (((P.funcs[g]?).getD default).body.getD .skip)) : Ent P g := ent_of hf hn hb
/-- The rule of loops over tuples. -/
theorem LpH.ind {T : Type} {body : T → (T → Prop) → Prop} (I : T → Prop) (m : T → Nat) (h : ∀ t, I t → body t (fun t' => I t' ∧ m t' < m t)) {t : T} (h0 : I t) : LpH body t := by
  intro X hX
  have key : ∀ (k : Nat) (t : T), m t ≤ k → I t → X t := by
    intro k
    induction k with
    | zero => exact fun t _ hi => hX t _ (fun t' h => absurd h.2 (by omega)) (h t hi)
    | succ k ih => exact fun t hk hi => hX t _ (fun t' h => ih t' (by omega) h.1) (h t hi)
  exact key _ t (Nat.le_refl _) h0
end Go.Fx
end
/- Functions over the contracts of those that they call, and of no others. Conditions: those in the statements. -/
section
namespace Go.Fx
open Go Go.RowKit Go.Fl Go.Fl.Lk
variable {S : Sig}
/-- What a walk is given, over a program and its shapes. -/
def Ev3 (E : Ev S) (P : Program) (D : Shp S) : Prop := EvOk E ∧ E.P = P ∧ E.D = D
theorem with3 {E : Ev S} {P : Program} {D : Shp S} {g : Nat} {c : Con S} (h : Ev3 E P D) (hen : Ent P g) (hc : Meets P D g c) : Ev3 (E.with g c) P D := by
  obtain ⟨h, rfl, rfl⟩ := h
  exact ⟨with_ok h hen hc, rfl, rfl⟩
theorem meets3 {E : Ev S} {P : Program} {D : Shp S} (h : Ev3 E P D) {p : Nat → Option (Spec S)} {fuel g : Nat} {pk rk : List (PK S)} {av rv ov : List (VT S)} {F : TL av → (TL rv → TL ov → Prop) → Prop}
    (e : ∀ a K, F a K = fnV (E.pl p) fuel g pk rk av rv ov a K) : Meets P D g (conV pk av rv ov F) := by
  obtain ⟨h, rfl, rfl⟩ := h
  have hF : F = fnV (E.pl p) fuel g pk rk av rv ov := funext fun a => funext fun K => e a K
  rw [hF]
  exact meetsV (pl_ok h p) fuel g pk rk av rv ov
theorem meetsR {E : Ev S} {P : Program} {D : Shp S} (h : Ev3 E P D) {p : Nat → Option (Spec S)} {fuel g : Nat} {pk rk : List (PK S)} {av rv ov : List (VT S)} {F : TL av → (TL rv → TL ov → Prop) → Prop} (hen : Ent P g)
    (e : ∀ a K, F a K → ∀ X : TL av → (TL rv → TL ov → Prop) → Prop, (∀ a K, fnV ((E.with g (conV pk av rv ov X)).pl p) fuel g pk rk av rv ov a K → X a K) → X a K) : Meets P D g (conV pk av rv ov F) := by
  obtain ⟨h, rfl, rfl⟩ := h
  exact meets_mono (fun a K hF => e a K hF) (meetsX (pl_ok h p) (fuel := fuel) (rk := rk) hen)
end Go.Fx
end
end
section
open Go Go.RowKit Go.Fl Go.Fl.Lk Go.Fx
namespace Go.En
structure Val where
  kind : Int
  number : Int
  text : ByteArray
  list : List ByteArray
structure Attr where
  name : ByteArray
  value : Val
structure Ctxt where
  kind : ByteArray
  key : ByteArray
  attrs : List Attr
structure Subj where
  ctxs : List Ctxt
structure Ex where
  op : Int
  kind : ByteArray
  name : ByteArray
  values : List Val
  kids : List Ex
structure Rng where
  lo : Int
  hi : Int
  variation : Int
structure Srv where
  variation : Int
  kind : ByteArray
  by_ : ByteArray
  salt : ByteArray
  split : List Rng
structure Tgt where
  kind : ByteArray
  variation : Int
  keys : List ByteArray
structure Prq where
  flag : ByteArray
  variation : Int
structure Rul where
  name : ByteArray
  cond : Ex
  serve : Srv
structure Flg where
  key : ByteArray
  kind : Int
  variations : List Val
  on : Bool
  off : Int
  needs : List Prq
  targets : List Tgt
  rules : List Rul
  dflt : Srv
structure Seg where
  key : ByteArray
  kind : ByteArray
  incl : List ByteArray
  excl : List ByteArray
  cond : Ex
structure Spn where
  lo : Int
  hi : Int
structure Col where
  lo : Int
  hi : Int
  until_ : Int
structure Lay_ where
  key : ByteArray
  kind : ByteArray
  salt : ByteArray
  holdout : Int
  cool : Int
  cooling : List Col
structure Exper where
  key : ByteArray
  layer : ByteArray
  flag : ByteArray
  salt : ByteArray
  status : Int
  claims : List Spn
  arms : List Rng
  cond : Ex
structure Decl where
  kind : ByteArray
  name : ByteArray
  type : Int
structure Sett where
  salt : ByteArray
  holdoutKind : ByteArray
  holdout : Int
structure Envt where
  settings : Sett
  attributes : List Decl
  segments : List Seg
  flags : List Flg
  layers : List Lay_
  experiments : List Exper
structure Edg where
  src : ByteArray
  dst : ByteArray
abbrev Nd := Int × Int × Int
abbrev A3 := Int × Int × Int
structure Acc where
  lo : Int
  hi : Int
inductive C where | i64 | u8 | bool | str | strs | val | attr | ctx | subj | ex | range | serve | target | prereq | rule | flag | seg | span | cool | layer | exper | decl | settings | env | edge | node | a3 | acc deriving DecidableEq
abbrev car : C → Type
  | .i64 => Int
  | .u8 => Int
  | .bool => Bool
  | .str => ByteArray
  | .strs => List ByteArray
  | .val => Val
  | .attr => Attr
  | .ctx => Ctxt
  | .subj => Subj
  | .ex => Ex
  | .range => Rng
  | .serve => Srv
  | .target => Tgt
  | .prereq => Prq
  | .rule => Rul
  | .flag => Flg
  | .seg => Seg
  | .span => Spn
  | .cool => Col
  | .layer => Lay_
  | .exper => Exper
  | .decl => Decl
  | .settings => Sett
  | .env => Envt
  | .edge => Edg
  | .node => Nd
  | .a3 => A3
  | .acc => Acc
noncomputable abbrev Sg : Sig := ⟨C, car, inferInstance⟩
noncomputable def shape : (T : C) → car T → List (FV Sg)
  | .i64, x => [.int .i64 x]
  | .u8, x => [.int .u8 x]
  | .bool, x => [.bool x]
  | .str, x => [.str x]
  | .strs, x => [.sl .str x]
  | .val, x => [.int .i64 x.kind, .int .i64 x.number, .str x.text, .sl .str x.list]
  | .attr, x => [.str x.name, .int .i64 x.value.kind, .int .i64 x.value.number, .str x.value.text, .sl .str x.value.list]
  | .ctx, x => [.str x.kind, .str x.key, .sl .attr x.attrs]
  | .subj, x => [.sl .ctx x.ctxs]
  | .ex, x => [.int .i64 x.op, .str x.kind, .str x.name, .sl .val x.values, .sl .ex x.kids]
  | .range, x => [.int .i64 x.lo, .int .i64 x.hi, .int .i64 x.variation]
  | .serve, x => [.int .i64 x.variation, .str x.kind, .str x.by_, .str x.salt, .sl .range x.split]
  | .target, x => [.str x.kind, .int .i64 x.variation, .sl .str x.keys]
  | .prereq, x => [.str x.flag, .int .i64 x.variation]
  | .rule, x => [.str x.name, .int .i64 x.cond.op, .str x.cond.kind, .str x.cond.name, .sl .val x.cond.values, .sl .ex x.cond.kids, .int .i64 x.serve.variation, .str x.serve.kind, .str x.serve.by_, .str x.serve.salt, .sl .range x.serve.split]
  | .flag, x => [.str x.key, .int .i64 x.kind, .sl .val x.variations, .bool x.on, .int .i64 x.off, .sl .prereq x.needs, .sl .target x.targets, .sl .rule x.rules, .int .i64 x.dflt.variation, .str x.dflt.kind, .str x.dflt.by_, .str x.dflt.salt, .sl .range x.dflt.split]
  | .seg, x => [.str x.key, .str x.kind, .sl .str x.incl, .sl .str x.excl, .int .i64 x.cond.op, .str x.cond.kind, .str x.cond.name, .sl .val x.cond.values, .sl .ex x.cond.kids]
  | .span, x => [.int .i64 x.lo, .int .i64 x.hi]
  | .cool, x => [.int .i64 x.lo, .int .i64 x.hi, .int .i64 x.until_]
  | .layer, x => [.str x.key, .str x.kind, .str x.salt, .int .i64 x.holdout, .int .i64 x.cool, .sl .cool x.cooling]
  | .exper, x => [.str x.key, .str x.layer, .str x.flag, .str x.salt, .int .i64 x.status, .sl .span x.claims, .sl .range x.arms, .int .i64 x.cond.op, .str x.cond.kind, .str x.cond.name, .sl .val x.cond.values, .sl .ex x.cond.kids]
  | .decl, x => [.str x.kind, .str x.name, .int .i64 x.type]
  | .settings, x => [.str x.salt, .str x.holdoutKind, .int .i64 x.holdout]
  | .env, x => [.str x.settings.salt, .str x.settings.holdoutKind, .int .i64 x.settings.holdout, .sl .decl x.attributes, .sl .seg x.segments, .sl .flag x.flags, .sl .layer x.layers, .sl .exper x.experiments]
  | .edge, x => [.str x.src, .str x.dst]
  | .node, x => [.int .i64 x.1, .int .i64 x.2.1, .int .i64 x.2.2]
  | .a3, x => [.int .i64 x.1, .int .i64 x.2.1, .int .i64 x.2.2]
  | .acc, x => [.int .u8 x.lo, .int .u8 x.hi]
noncomputable def sl_str : FV Sg → Option (List (car .str))
  | .nils => some []
  | .sl .str l => some l
  | _ => none
noncomputable def sl_val : FV Sg → Option (List (car .val))
  | .nils => some []
  | .sl .val l => some l
  | _ => none
noncomputable def sl_attr : FV Sg → Option (List (car .attr))
  | .nils => some []
  | .sl .attr l => some l
  | _ => none
noncomputable def sl_ctx : FV Sg → Option (List (car .ctx))
  | .nils => some []
  | .sl .ctx l => some l
  | _ => none
noncomputable def sl_ex : FV Sg → Option (List (car .ex))
  | .nils => some []
  | .sl .ex l => some l
  | _ => none
noncomputable def sl_range : FV Sg → Option (List (car .range))
  | .nils => some []
  | .sl .range l => some l
  | _ => none
noncomputable def sl_target : FV Sg → Option (List (car .target))
  | .nils => some []
  | .sl .target l => some l
  | _ => none
noncomputable def sl_prereq : FV Sg → Option (List (car .prereq))
  | .nils => some []
  | .sl .prereq l => some l
  | _ => none
noncomputable def sl_rule : FV Sg → Option (List (car .rule))
  | .nils => some []
  | .sl .rule l => some l
  | _ => none
noncomputable def sl_flag : FV Sg → Option (List (car .flag))
  | .nils => some []
  | .sl .flag l => some l
  | _ => none
noncomputable def sl_seg : FV Sg → Option (List (car .seg))
  | .nils => some []
  | .sl .seg l => some l
  | _ => none
noncomputable def sl_span : FV Sg → Option (List (car .span))
  | .nils => some []
  | .sl .span l => some l
  | _ => none
noncomputable def sl_cool : FV Sg → Option (List (car .cool))
  | .nils => some []
  | .sl .cool l => some l
  | _ => none
noncomputable def sl_layer : FV Sg → Option (List (car .layer))
  | .nils => some []
  | .sl .layer l => some l
  | _ => none
noncomputable def sl_exper : FV Sg → Option (List (car .exper))
  | .nils => some []
  | .sl .exper l => some l
  | _ => none
noncomputable def sl_decl : FV Sg → Option (List (car .decl))
  | .nils => some []
  | .sl .decl l => some l
  | _ => none
noncomputable def bl_i64 : List (FV Sg) → Option (Int)
  | [.int .i64 x] => some x
  | _ => none
noncomputable def bl_u8 : List (FV Sg) → Option (Int)
  | [.int .u8 x] => some x
  | _ => none
noncomputable def bl_bool : List (FV Sg) → Option (Bool)
  | [.bool x] => some x
  | _ => none
noncomputable def bl_str : List (FV Sg) → Option (ByteArray)
  | [.str x] => some x
  | _ => none
noncomputable def bl_strs : List (FV Sg) → Option (List ByteArray)
  | [x] => sl_str x
  | _ => none
noncomputable def bl_val : List (FV Sg) → Option Val
  | [.int .i64 x0, .int .i64 x1, .str x2, x3] => (sl_str x3).bind fun y3 => some (Val.mk x0 x1 x2 y3)
  | _ => none
noncomputable def bl_attr : List (FV Sg) → Option Attr
  | [.str x0, .int .i64 x1, .int .i64 x2, .str x3, x4] => (sl_str x4).bind fun y4 => some (Attr.mk x0 (Val.mk x1 x2 x3 y4))
  | _ => none
noncomputable def bl_ctx : List (FV Sg) → Option Ctxt
  | [.str x0, .str x1, x2] => (sl_attr x2).bind fun y2 => some (Ctxt.mk x0 x1 y2)
  | _ => none
noncomputable def bl_subj : List (FV Sg) → Option Subj
  | [x0] => (sl_ctx x0).bind fun y0 => some (Subj.mk y0)
  | _ => none
noncomputable def bl_ex : List (FV Sg) → Option Ex
  | [.int .i64 x0, .str x1, .str x2, x3, x4] => (sl_val x3).bind fun y3 => (sl_ex x4).bind fun y4 => some (Ex.mk x0 x1 x2 y3 y4)
  | _ => none
noncomputable def bl_range : List (FV Sg) → Option Rng
  | [.int .i64 x0, .int .i64 x1, .int .i64 x2] => some (Rng.mk x0 x1 x2)
  | _ => none
noncomputable def bl_serve : List (FV Sg) → Option Srv
  | [.int .i64 x0, .str x1, .str x2, .str x3, x4] => (sl_range x4).bind fun y4 => some (Srv.mk x0 x1 x2 x3 y4)
  | _ => none
noncomputable def bl_target : List (FV Sg) → Option Tgt
  | [.str x0, .int .i64 x1, x2] => (sl_str x2).bind fun y2 => some (Tgt.mk x0 x1 y2)
  | _ => none
noncomputable def bl_prereq : List (FV Sg) → Option Prq
  | [.str x0, .int .i64 x1] => some (Prq.mk x0 x1)
  | _ => none
noncomputable def bl_rule : List (FV Sg) → Option Rul
  | [.str x0, .int .i64 x1, .str x2, .str x3, x4, x5, .int .i64 x6, .str x7, .str x8, .str x9, x10] => (sl_val x4).bind fun y4 => (sl_ex x5).bind fun y5 => (sl_range x10).bind fun y10 => some (Rul.mk x0 (Ex.mk x1 x2 x3 y4 y5) (Srv.mk x6 x7 x8 x9 y10))
  | _ => none
noncomputable def bl_flag : List (FV Sg) → Option Flg
  | [.str x0, .int .i64 x1, x2, .bool x3, .int .i64 x4, x5, x6, x7, .int .i64 x8, .str x9, .str x10, .str x11, x12] => (sl_val x2).bind fun y2 => (sl_prereq x5).bind fun y5 => (sl_target x6).bind fun y6 => (sl_rule x7).bind fun y7 => (sl_range x12).bind fun y12 => some (Flg.mk x0 x1 y2 x3 x4 y5 y6 y7 (Srv.mk x8 x9 x10 x11 y12))
  | _ => none
noncomputable def bl_seg : List (FV Sg) → Option Seg
  | [.str x0, .str x1, x2, x3, .int .i64 x4, .str x5, .str x6, x7, x8] => (sl_str x2).bind fun y2 => (sl_str x3).bind fun y3 => (sl_val x7).bind fun y7 => (sl_ex x8).bind fun y8 => some (Seg.mk x0 x1 y2 y3 (Ex.mk x4 x5 x6 y7 y8))
  | _ => none
noncomputable def bl_span : List (FV Sg) → Option Spn
  | [.int .i64 x0, .int .i64 x1] => some (Spn.mk x0 x1)
  | _ => none
noncomputable def bl_cool : List (FV Sg) → Option Col
  | [.int .i64 x0, .int .i64 x1, .int .i64 x2] => some (Col.mk x0 x1 x2)
  | _ => none
noncomputable def bl_layer : List (FV Sg) → Option Lay_
  | [.str x0, .str x1, .str x2, .int .i64 x3, .int .i64 x4, x5] => (sl_cool x5).bind fun y5 => some (Lay_.mk x0 x1 x2 x3 x4 y5)
  | _ => none
noncomputable def bl_exper : List (FV Sg) → Option Exper
  | [.str x0, .str x1, .str x2, .str x3, .int .i64 x4, x5, x6, .int .i64 x7, .str x8, .str x9, x10, x11] => (sl_span x5).bind fun y5 => (sl_range x6).bind fun y6 => (sl_val x10).bind fun y10 => (sl_ex x11).bind fun y11 => some (Exper.mk x0 x1 x2 x3 x4 y5 y6 (Ex.mk x7 x8 x9 y10 y11))
  | _ => none
noncomputable def bl_decl : List (FV Sg) → Option Decl
  | [.str x0, .str x1, .int .i64 x2] => some (Decl.mk x0 x1 x2)
  | _ => none
noncomputable def bl_settings : List (FV Sg) → Option Sett
  | [.str x0, .str x1, .int .i64 x2] => some (Sett.mk x0 x1 x2)
  | _ => none
noncomputable def bl_env : List (FV Sg) → Option Envt
  | [.str x0, .str x1, .int .i64 x2, x3, x4, x5, x6, x7] => (sl_decl x3).bind fun y3 => (sl_seg x4).bind fun y4 => (sl_flag x5).bind fun y5 => (sl_layer x6).bind fun y6 => (sl_exper x7).bind fun y7 => some (Envt.mk (Sett.mk x0 x1 x2) y3 y4 y5 y6 y7)
  | _ => none
noncomputable def bl_edge : List (FV Sg) → Option Edg
  | [.str x0, .str x1] => some (Edg.mk x0 x1)
  | _ => none
noncomputable def bl_node : List (FV Sg) → Option Nd
  | [.int .i64 x0, .int .i64 x1, .int .i64 x2] => some (x0, x1, x2)
  | _ => none
noncomputable def bl_a3 : List (FV Sg) → Option A3
  | [.int .i64 x0, .int .i64 x1, .int .i64 x2] => some (x0, x1, x2)
  | _ => none
noncomputable def bl_acc : List (FV Sg) → Option Acc
  | [.int .u8 x0, .int .u8 x1] => some (Acc.mk x0 x1)
  | _ => none
noncomputable def bld : (T : C) → List (FV Sg) → Option (car T)
  | .i64 => bl_i64
  | .u8 => bl_u8
  | .bool => bl_bool
  | .str => bl_str
  | .strs => bl_strs
  | .val => bl_val
  | .attr => bl_attr
  | .ctx => bl_ctx
  | .subj => bl_subj
  | .ex => bl_ex
  | .range => bl_range
  | .serve => bl_serve
  | .target => bl_target
  | .prereq => bl_prereq
  | .rule => bl_rule
  | .flag => bl_flag
  | .seg => bl_seg
  | .span => bl_span
  | .cool => bl_cool
  | .layer => bl_layer
  | .exper => bl_exper
  | .decl => bl_decl
  | .settings => bl_settings
  | .env => bl_env
  | .edge => bl_edge
  | .node => bl_node
  | .a3 => bl_a3
  | .acc => bl_acc
def tTexts : List ByteArray := [⟨#[115, 101]⟩, ⟨#[100, 101]⟩, ⟨#[117, 115]⟩, ⟨#[112, 114, 111]⟩, ⟨#[102, 114, 101, 101]⟩, ⟨#[]⟩, ⟨#[97, 34, 98]⟩, ⟨#[99, 92]⟩, ⟨#[195, 169]⟩, ⟨#[112, 114, 111, 115, 101]⟩, ⟨#[120, 32, 121]⟩]
def tVersions : List ByteArray := [⟨#[49, 46, 48, 46, 48]⟩, ⟨#[49, 46, 50, 46, 51]⟩, ⟨#[49, 46, 49, 48, 46, 48]⟩, ⟨#[50, 46, 48, 46, 49]⟩, ⟨#[48, 46, 48, 46, 48]⟩, ⟨#[57, 57, 57, 57, 57, 57, 46, 48, 46, 57, 57, 57, 57, 57, 57]⟩]
def tLists : List (List ByteArray) := [[], [⟨#[112, 114, 111]⟩], [⟨#[100, 101]⟩, ⟨#[115, 101]⟩], [⟨#[]⟩, ⟨#[102, 114, 101, 101]⟩, ⟨#[117, 115]⟩], [⟨#[120, 32, 121]⟩]]
def tAccept : List Acc := [⟨128, 191⟩, ⟨160, 191⟩, ⟨128, 159⟩, ⟨144, 191⟩, ⟨128, 143⟩, ⟨0, 0⟩, ⟨0, 0⟩, ⟨0, 0⟩, ⟨0, 0⟩, ⟨0, 0⟩, ⟨0, 0⟩, ⟨0, 0⟩, ⟨0, 0⟩, ⟨0, 0⟩, ⟨0, 0⟩, ⟨0, 0⟩]
def tFirst : List Int := [240, 240, 240, 240, 240, 240, 240, 240, 240, 240, 240, 240, 240, 240, 240, 240, 240, 240, 240, 240, 240, 240, 240, 240, 240, 240, 240, 240, 240, 240, 240, 240, 240, 240, 240, 240, 240, 240, 240, 240, 240, 240, 240, 240, 240, 240, 240, 240, 240, 240, 240, 240, 240, 240, 240, 240, 240, 240, 240, 240, 240, 240, 240, 240, 240, 240, 240, 240, 240, 240, 240, 240, 240, 240, 240, 240, 240, 240, 240, 240, 240, 240, 240, 240, 240, 240, 240, 240, 240, 240, 240, 240, 240, 240, 240, 240, 240, 240, 240, 240, 240, 240, 240, 240, 240, 240, 240, 240, 240, 240, 240, 240, 240, 240, 240, 240, 240, 240, 240, 240, 240, 240, 240, 240, 240, 240, 240, 240, 241, 241, 241, 241, 241, 241, 241, 241, 241, 241, 241, 241, 241, 241, 241, 241, 241, 241, 241, 241, 241, 241, 241, 241, 241, 241, 241, 241, 241, 241, 241, 241, 241, 241, 241, 241, 241, 241, 241, 241, 241, 241, 241, 241, 241, 241, 241, 241, 241, 241, 241, 241, 241, 241, 241, 241, 241, 241, 241, 241, 241, 241, 241, 241, 241, 241, 2, 2, 2, 2, 2, 2, 2, 2, 2, 2, 2, 2, 2, 2, 2, 2, 2, 2, 2, 2, 2, 2, 2, 2, 2, 2, 2, 2, 2, 2, 19, 3, 3, 3, 3, 3, 3, 3, 3, 3, 3, 3, 3, 35, 3, 3, 52, 4, 4, 4, 68, 241, 241, 241, 241, 241, 241, 241, 241, 241, 241, 241]
noncomputable def globs : Nat → SV Sg := fun g => match g with | 0 => .fap C.str 11 tTexts | 1 => .fap C.str 6 tVersions | 2 => .fap C.strs 5 tLists | 4 => .fap C.acc 16 tAccept | 7 => .fptr [.ifc false] 0 | 6 => .fptr [.ifc false] 0 | 3 => .fap C.u8 256 tFirst | _ => .dead
def gopens : Nat → Option IntKind := fun g => if g = 5 then some .i64 else none
noncomputable def D : Shp Sg where
  size := fun | .i64 => 1 | .u8 => 1 | .bool => 1 | .str => 1 | .strs => 1 | .val => 4 | .attr => 5 | .ctx => 3 | .subj => 1 | .ex => 5 | .range => 3 | .serve => 5 | .target => 3 | .prereq => 2 | .rule => 11 | .flag => 13 | .seg => 9 | .span => 2 | .cool => 3 | .layer => 6 | .exper => 12 | .decl => 3 | .settings => 3 | .env => 8 | .edge => 2 | .node => 3 | .a3 => 3 | .acc => 2
  shape := shape
  bld := bld
  zero := fun | .i64 => (0 : Int) | .u8 => (0 : Int) | .bool => false | .str => (⟨#[]⟩ : ByteArray) | .strs => ([] : List ByteArray) | .val => (Val.mk (0 : Int) (0 : Int) (⟨#[]⟩ : ByteArray) ([] : List ByteArray)) | .attr => (Attr.mk (⟨#[]⟩ : ByteArray) (Val.mk (0 : Int) (0 : Int) (⟨#[]⟩ : ByteArray) ([] : List ByteArray))) | .ctx => (Ctxt.mk (⟨#[]⟩ : ByteArray) (⟨#[]⟩ : ByteArray) ([] : List Attr)) | .subj => (Subj.mk ([] : List Ctxt)) | .ex => (Ex.mk (0 : Int) (⟨#[]⟩ : ByteArray) (⟨#[]⟩ : ByteArray) ([] : List Val) ([] : List Ex)) | .range => (Rng.mk (0 : Int) (0 : Int) (0 : Int)) | .serve => (Srv.mk (0 : Int) (⟨#[]⟩ : ByteArray) (⟨#[]⟩ : ByteArray) (⟨#[]⟩ : ByteArray) ([] : List Rng)) | .target => (Tgt.mk (⟨#[]⟩ : ByteArray) (0 : Int) ([] : List ByteArray)) | .prereq => (Prq.mk (⟨#[]⟩ : ByteArray) (0 : Int)) | .rule => (Rul.mk (⟨#[]⟩ : ByteArray) (Ex.mk (0 : Int) (⟨#[]⟩ : ByteArray) (⟨#[]⟩ : ByteArray) ([] : List Val) ([] : List Ex)) (Srv.mk (0 : Int) (⟨#[]⟩ : ByteArray) (⟨#[]⟩ : ByteArray) (⟨#[]⟩ : ByteArray) ([] : List Rng))) | .flag => (Flg.mk (⟨#[]⟩ : ByteArray) (0 : Int) ([] : List Val) false (0 : Int) ([] : List Prq) ([] : List Tgt) ([] : List Rul) (Srv.mk (0 : Int) (⟨#[]⟩ : ByteArray) (⟨#[]⟩ : ByteArray) (⟨#[]⟩ : ByteArray) ([] : List Rng))) | .seg => (Seg.mk (⟨#[]⟩ : ByteArray) (⟨#[]⟩ : ByteArray) ([] : List ByteArray) ([] : List ByteArray) (Ex.mk (0 : Int) (⟨#[]⟩ : ByteArray) (⟨#[]⟩ : ByteArray) ([] : List Val) ([] : List Ex))) | .span => (Spn.mk (0 : Int) (0 : Int)) | .cool => (Col.mk (0 : Int) (0 : Int) (0 : Int)) | .layer => (Lay_.mk (⟨#[]⟩ : ByteArray) (⟨#[]⟩ : ByteArray) (⟨#[]⟩ : ByteArray) (0 : Int) (0 : Int) ([] : List Col)) | .exper => (Exper.mk (⟨#[]⟩ : ByteArray) (⟨#[]⟩ : ByteArray) (⟨#[]⟩ : ByteArray) (⟨#[]⟩ : ByteArray) (0 : Int) ([] : List Spn) ([] : List Rng) (Ex.mk (0 : Int) (⟨#[]⟩ : ByteArray) (⟨#[]⟩ : ByteArray) ([] : List Val) ([] : List Ex))) | .decl => (Decl.mk (⟨#[]⟩ : ByteArray) (⟨#[]⟩ : ByteArray) (0 : Int)) | .settings => (Sett.mk (⟨#[]⟩ : ByteArray) (⟨#[]⟩ : ByteArray) (0 : Int)) | .env => (Envt.mk (Sett.mk (⟨#[]⟩ : ByteArray) (⟨#[]⟩ : ByteArray) (0 : Int)) ([] : List Decl) ([] : List Seg) ([] : List Flg) ([] : List Lay_) ([] : List Exper)) | .edge => (Edg.mk (⟨#[]⟩ : ByteArray) (⟨#[]⟩ : ByteArray)) | .node => ((0 : Int), (0 : Int), (0 : Int)) | .a3 => ((0 : Int), (0 : Int), (0 : Int)) | .acc => (Acc.mk (0 : Int) (0 : Int))
  code := fun t => match t with | 2 => some .i64 | 3 => some .i64 | 4 => some .bool | 5 => some .u8 | 9 => some .str | 26 => some .ex | 30 => some .strs | 33 => some .seg | 38 => some .i64 | 44 => some .subj | 46 => some .settings | 52 => some .env | 63 => some .ctx | 79 => some .edge | 93 => some .serve | 95 => some .flag | 99 => some .layer | 103 => some .exper | 112 => some .val | 114 => some .decl | 135 => some .prereq | 137 => some .target | 141 => some .rule | 146 => some .cool | 152 => some .span | 157 => some .attr | 197 => some .range | 214 => some .a3 | 253 => some .node | 281 => some .acc | _ => none
  acode := fun t => match t with  | _ => none
  mcode := fun t => match t with | 107 => some (.str, .seg) | 126 => some (.str, .strs) | 127 => some (.str, .bool) | 193 => some (.node, .i64) | 256 => some (.a3, .i64) | 267 => some (.i64, .bool) | _ => none
  kdec := fun | .i64 => inferInstanceAs (DecidableEq Int) | .str => inferInstanceAs (DecidableEq ByteArray) | .node => inferInstanceAs (DecidableEq Nd) | .a3 => inferInstanceAs (DecidableEq A3) | _ => fun a b => Classical.propDecidable (a = b)
  glob := globs
  gopen := gopens
  flat := fun | .i64 => true | .u8 => true | .bool => true | .str => true | .strs => false | .val => false | .attr => false | .ctx => false | .subj => false | .ex => false | .range => true | .serve => false | .target => false | .prereq => true | .rule => false | .flag => false | .seg => false | .span => true | .cool => true | .layer => false | .exper => false | .decl => true | .settings => true | .env => false | .edge => true | .node => true | .a3 => true | .acc => true
theorem nil_sl (T : C) {σ : Hv} : RepF D σ (.slice none 0 0) (.sl T []) := by
  have h := RepF.sl (D := D) (σ := σ) T [] none 0 (fun _ _ => undef) (Nat.le_refl _) (by simp) (fun i x h => by simp at h) (fun i x j s h => by simp at h)
  exact h
inductive Fit (σ : Hv) : List (FV Sg) → List (FV Sg) → Prop
  | nil : Fit σ [] []
  | cons {s s' : FV Sg} {l l' : List (FV Sg)} (h : ∀ v, RepF D σ v s → RepF D σ v s') (t : Fit σ l l') : Fit σ (s :: l) (s' :: l')
theorem Fit.row {σ : Hv} {l l' : List (FV Sg)} (h : Fit σ l l') : ∀ {cs : List Value}, RowF D σ cs l → RowF D σ cs l' := by
  induction h with
  | nil => exact fun hr => hr
  | @cons s s' l l' h t ih =>
    intro cs hr
    cases cs with
    | nil => have := hr.1; cases this
    | cons c cs =>
      have h2 := ih (cs := cs) ⟨by have := hr.1; simpa using this, fun j v s hj hs => hr.2 (j + 1) v s (by simpa using hj) (by simpa using hs)⟩
      refine ⟨by have := h2.1; simp [this], fun j v x hj hx => ?_⟩
      cases j with
      | zero => simp at hj hx; subst hj hx; exact h _ (hr.2 0 c s rfl rfl)
      | succ j => exact h2.2 j v x (by simpa using hj) (by simpa using hx)
theorem row_nil {σ : Hv} : RowF D σ [] [] := ⟨rfl, fun j v s hj => by cases hj⟩
theorem row_cons {σ : Hv} {v : Value} {s : FV Sg} {cs : List Value} {ss : List (FV Sg)} (h : RepF D σ v s) (hr : RowF D σ cs ss) : RowF D σ (v :: cs) (s :: ss) := ⟨by simp [hr.1], fun j u x hj hx => by
  cases j with
  | zero => simp at hj hx; subst hj hx; exact h
  | succ j => exact hr.2 j u x (by simpa using hj) (by simpa using hx)⟩
theorem fit_str {s : FV Sg} {l : List (car .str)} (h : sl_str s = some l) {σ : Hv} (v : Value) (hr : RepF D σ v s) : RepF D σ v (.sl .str l) := by
  unfold sl_str at h
  split at h
  · cases h; cases hr; exact nil_sl _
  · cases h; exact hr
  · cases h
theorem fit_val {s : FV Sg} {l : List (car .val)} (h : sl_val s = some l) {σ : Hv} (v : Value) (hr : RepF D σ v s) : RepF D σ v (.sl .val l) := by
  unfold sl_val at h
  split at h
  · cases h; cases hr; exact nil_sl _
  · cases h; exact hr
  · cases h
theorem fit_attr {s : FV Sg} {l : List (car .attr)} (h : sl_attr s = some l) {σ : Hv} (v : Value) (hr : RepF D σ v s) : RepF D σ v (.sl .attr l) := by
  unfold sl_attr at h
  split at h
  · cases h; cases hr; exact nil_sl _
  · cases h; exact hr
  · cases h
theorem fit_ctx {s : FV Sg} {l : List (car .ctx)} (h : sl_ctx s = some l) {σ : Hv} (v : Value) (hr : RepF D σ v s) : RepF D σ v (.sl .ctx l) := by
  unfold sl_ctx at h
  split at h
  · cases h; cases hr; exact nil_sl _
  · cases h; exact hr
  · cases h
theorem fit_ex {s : FV Sg} {l : List (car .ex)} (h : sl_ex s = some l) {σ : Hv} (v : Value) (hr : RepF D σ v s) : RepF D σ v (.sl .ex l) := by
  unfold sl_ex at h
  split at h
  · cases h; cases hr; exact nil_sl _
  · cases h; exact hr
  · cases h
theorem fit_range {s : FV Sg} {l : List (car .range)} (h : sl_range s = some l) {σ : Hv} (v : Value) (hr : RepF D σ v s) : RepF D σ v (.sl .range l) := by
  unfold sl_range at h
  split at h
  · cases h; cases hr; exact nil_sl _
  · cases h; exact hr
  · cases h
theorem fit_target {s : FV Sg} {l : List (car .target)} (h : sl_target s = some l) {σ : Hv} (v : Value) (hr : RepF D σ v s) : RepF D σ v (.sl .target l) := by
  unfold sl_target at h
  split at h
  · cases h; cases hr; exact nil_sl _
  · cases h; exact hr
  · cases h
theorem fit_prereq {s : FV Sg} {l : List (car .prereq)} (h : sl_prereq s = some l) {σ : Hv} (v : Value) (hr : RepF D σ v s) : RepF D σ v (.sl .prereq l) := by
  unfold sl_prereq at h
  split at h
  · cases h; cases hr; exact nil_sl _
  · cases h; exact hr
  · cases h
theorem fit_rule {s : FV Sg} {l : List (car .rule)} (h : sl_rule s = some l) {σ : Hv} (v : Value) (hr : RepF D σ v s) : RepF D σ v (.sl .rule l) := by
  unfold sl_rule at h
  split at h
  · cases h; cases hr; exact nil_sl _
  · cases h; exact hr
  · cases h
theorem fit_flag {s : FV Sg} {l : List (car .flag)} (h : sl_flag s = some l) {σ : Hv} (v : Value) (hr : RepF D σ v s) : RepF D σ v (.sl .flag l) := by
  unfold sl_flag at h
  split at h
  · cases h; cases hr; exact nil_sl _
  · cases h; exact hr
  · cases h
theorem fit_seg {s : FV Sg} {l : List (car .seg)} (h : sl_seg s = some l) {σ : Hv} (v : Value) (hr : RepF D σ v s) : RepF D σ v (.sl .seg l) := by
  unfold sl_seg at h
  split at h
  · cases h; cases hr; exact nil_sl _
  · cases h; exact hr
  · cases h
theorem fit_span {s : FV Sg} {l : List (car .span)} (h : sl_span s = some l) {σ : Hv} (v : Value) (hr : RepF D σ v s) : RepF D σ v (.sl .span l) := by
  unfold sl_span at h
  split at h
  · cases h; cases hr; exact nil_sl _
  · cases h; exact hr
  · cases h
theorem fit_cool {s : FV Sg} {l : List (car .cool)} (h : sl_cool s = some l) {σ : Hv} (v : Value) (hr : RepF D σ v s) : RepF D σ v (.sl .cool l) := by
  unfold sl_cool at h
  split at h
  · cases h; cases hr; exact nil_sl _
  · cases h; exact hr
  · cases h
theorem fit_layer {s : FV Sg} {l : List (car .layer)} (h : sl_layer s = some l) {σ : Hv} (v : Value) (hr : RepF D σ v s) : RepF D σ v (.sl .layer l) := by
  unfold sl_layer at h
  split at h
  · cases h; cases hr; exact nil_sl _
  · cases h; exact hr
  · cases h
theorem fit_exper {s : FV Sg} {l : List (car .exper)} (h : sl_exper s = some l) {σ : Hv} (v : Value) (hr : RepF D σ v s) : RepF D σ v (.sl .exper l) := by
  unfold sl_exper at h
  split at h
  · cases h; cases hr; exact nil_sl _
  · cases h; exact hr
  · cases h
theorem fit_decl {s : FV Sg} {l : List (car .decl)} (h : sl_decl s = some l) {σ : Hv} (v : Value) (hr : RepF D σ v s) : RepF D σ v (.sl .decl l) := by
  unfold sl_decl at h
  split at h
  · cases h; cases hr; exact nil_sl _
  · cases h; exact hr
  · cases h
theorem bl_i64_ok {ss : List (FV Sg)} {x : car .i64} (h : bl_i64 ss = some x) {σ : Hv} {cs : List Value} (hr : RowF D σ cs ss) : RowF D σ cs (shape .i64 x) := by
  unfold bl_i64 at h
  split at h
  · skip
    cases h
    exact Fit.row (.cons (fun _ h => h) .nil) hr
  · cases h
theorem bl_u8_ok {ss : List (FV Sg)} {x : car .u8} (h : bl_u8 ss = some x) {σ : Hv} {cs : List Value} (hr : RowF D σ cs ss) : RowF D σ cs (shape .u8 x) := by
  unfold bl_u8 at h
  split at h
  · skip
    cases h
    exact Fit.row (.cons (fun _ h => h) .nil) hr
  · cases h
theorem bl_bool_ok {ss : List (FV Sg)} {x : car .bool} (h : bl_bool ss = some x) {σ : Hv} {cs : List Value} (hr : RowF D σ cs ss) : RowF D σ cs (shape .bool x) := by
  unfold bl_bool at h
  split at h
  · skip
    cases h
    exact Fit.row (.cons (fun _ h => h) .nil) hr
  · cases h
theorem bl_str_ok {ss : List (FV Sg)} {x : car .str} (h : bl_str ss = some x) {σ : Hv} {cs : List Value} (hr : RowF D σ cs ss) : RowF D σ cs (shape .str x) := by
  unfold bl_str at h
  split at h
  · skip
    cases h
    exact Fit.row (.cons (fun _ h => h) .nil) hr
  · cases h
theorem bl_strs_ok {ss : List (FV Sg)} {x : car .strs} (h : bl_strs ss = some x) {σ : Hv} {cs : List Value} (hr : RowF D σ cs ss) : RowF D σ cs (shape .strs x) := by
  unfold bl_strs at h
  split at h
  · skip
    exact Fit.row (.cons (fit_str h) .nil) hr
  · cases h
theorem bl_val_ok {ss : List (FV Sg)} {x : car .val} (h : bl_val ss = some x) {σ : Hv} {cs : List Value} (hr : RowF D σ cs ss) : RowF D σ cs (shape .val x) := by
  unfold bl_val at h
  split at h
  · skip
    obtain ⟨y3, h3, h⟩ := Option.bind_eq_some_iff.1 h
    cases h
    exact Fit.row (.cons (fun _ h => h) (.cons (fun _ h => h) (.cons (fun _ h => h) (.cons (fit_str h3) .nil)))) hr
  · cases h
theorem bl_attr_ok {ss : List (FV Sg)} {x : car .attr} (h : bl_attr ss = some x) {σ : Hv} {cs : List Value} (hr : RowF D σ cs ss) : RowF D σ cs (shape .attr x) := by
  unfold bl_attr at h
  split at h
  · skip
    obtain ⟨y4, h4, h⟩ := Option.bind_eq_some_iff.1 h
    cases h
    exact Fit.row (.cons (fun _ h => h) (.cons (fun _ h => h) (.cons (fun _ h => h) (.cons (fun _ h => h) (.cons (fit_str h4) .nil))))) hr
  · cases h
theorem bl_ctx_ok {ss : List (FV Sg)} {x : car .ctx} (h : bl_ctx ss = some x) {σ : Hv} {cs : List Value} (hr : RowF D σ cs ss) : RowF D σ cs (shape .ctx x) := by
  unfold bl_ctx at h
  split at h
  · skip
    obtain ⟨y2, h2, h⟩ := Option.bind_eq_some_iff.1 h
    cases h
    exact Fit.row (.cons (fun _ h => h) (.cons (fun _ h => h) (.cons (fit_attr h2) .nil))) hr
  · cases h
theorem bl_subj_ok {ss : List (FV Sg)} {x : car .subj} (h : bl_subj ss = some x) {σ : Hv} {cs : List Value} (hr : RowF D σ cs ss) : RowF D σ cs (shape .subj x) := by
  unfold bl_subj at h
  split at h
  · skip
    obtain ⟨y0, h0, h⟩ := Option.bind_eq_some_iff.1 h
    cases h
    exact Fit.row (.cons (fit_ctx h0) .nil) hr
  · cases h
theorem bl_ex_ok {ss : List (FV Sg)} {x : car .ex} (h : bl_ex ss = some x) {σ : Hv} {cs : List Value} (hr : RowF D σ cs ss) : RowF D σ cs (shape .ex x) := by
  unfold bl_ex at h
  split at h
  · skip
    obtain ⟨y3, h3, h⟩ := Option.bind_eq_some_iff.1 h
    obtain ⟨y4, h4, h⟩ := Option.bind_eq_some_iff.1 h
    cases h
    exact Fit.row (.cons (fun _ h => h) (.cons (fun _ h => h) (.cons (fun _ h => h) (.cons (fit_val h3) (.cons (fit_ex h4) .nil))))) hr
  · cases h
theorem bl_range_ok {ss : List (FV Sg)} {x : car .range} (h : bl_range ss = some x) {σ : Hv} {cs : List Value} (hr : RowF D σ cs ss) : RowF D σ cs (shape .range x) := by
  unfold bl_range at h
  split at h
  · skip
    cases h
    exact Fit.row (.cons (fun _ h => h) (.cons (fun _ h => h) (.cons (fun _ h => h) .nil))) hr
  · cases h
theorem bl_serve_ok {ss : List (FV Sg)} {x : car .serve} (h : bl_serve ss = some x) {σ : Hv} {cs : List Value} (hr : RowF D σ cs ss) : RowF D σ cs (shape .serve x) := by
  unfold bl_serve at h
  split at h
  · skip
    obtain ⟨y4, h4, h⟩ := Option.bind_eq_some_iff.1 h
    cases h
    exact Fit.row (.cons (fun _ h => h) (.cons (fun _ h => h) (.cons (fun _ h => h) (.cons (fun _ h => h) (.cons (fit_range h4) .nil))))) hr
  · cases h
theorem bl_target_ok {ss : List (FV Sg)} {x : car .target} (h : bl_target ss = some x) {σ : Hv} {cs : List Value} (hr : RowF D σ cs ss) : RowF D σ cs (shape .target x) := by
  unfold bl_target at h
  split at h
  · skip
    obtain ⟨y2, h2, h⟩ := Option.bind_eq_some_iff.1 h
    cases h
    exact Fit.row (.cons (fun _ h => h) (.cons (fun _ h => h) (.cons (fit_str h2) .nil))) hr
  · cases h
theorem bl_prereq_ok {ss : List (FV Sg)} {x : car .prereq} (h : bl_prereq ss = some x) {σ : Hv} {cs : List Value} (hr : RowF D σ cs ss) : RowF D σ cs (shape .prereq x) := by
  unfold bl_prereq at h
  split at h
  · skip
    cases h
    exact Fit.row (.cons (fun _ h => h) (.cons (fun _ h => h) .nil)) hr
  · cases h
theorem bl_rule_ok {ss : List (FV Sg)} {x : car .rule} (h : bl_rule ss = some x) {σ : Hv} {cs : List Value} (hr : RowF D σ cs ss) : RowF D σ cs (shape .rule x) := by
  unfold bl_rule at h
  split at h
  · skip
    obtain ⟨y4, h4, h⟩ := Option.bind_eq_some_iff.1 h
    obtain ⟨y5, h5, h⟩ := Option.bind_eq_some_iff.1 h
    obtain ⟨y10, h10, h⟩ := Option.bind_eq_some_iff.1 h
    cases h
    exact Fit.row (.cons (fun _ h => h) (.cons (fun _ h => h) (.cons (fun _ h => h) (.cons (fun _ h => h) (.cons (fit_val h4) (.cons (fit_ex h5) (.cons (fun _ h => h) (.cons (fun _ h => h) (.cons (fun _ h => h) (.cons (fun _ h => h) (.cons (fit_range h10) .nil))))))))))) hr
  · cases h
theorem bl_flag_ok {ss : List (FV Sg)} {x : car .flag} (h : bl_flag ss = some x) {σ : Hv} {cs : List Value} (hr : RowF D σ cs ss) : RowF D σ cs (shape .flag x) := by
  unfold bl_flag at h
  split at h
  · skip
    obtain ⟨y2, h2, h⟩ := Option.bind_eq_some_iff.1 h
    obtain ⟨y5, h5, h⟩ := Option.bind_eq_some_iff.1 h
    obtain ⟨y6, h6, h⟩ := Option.bind_eq_some_iff.1 h
    obtain ⟨y7, h7, h⟩ := Option.bind_eq_some_iff.1 h
    obtain ⟨y12, h12, h⟩ := Option.bind_eq_some_iff.1 h
    cases h
    exact Fit.row (.cons (fun _ h => h) (.cons (fun _ h => h) (.cons (fit_val h2) (.cons (fun _ h => h) (.cons (fun _ h => h) (.cons (fit_prereq h5) (.cons (fit_target h6) (.cons (fit_rule h7) (.cons (fun _ h => h) (.cons (fun _ h => h) (.cons (fun _ h => h) (.cons (fun _ h => h) (.cons (fit_range h12) .nil))))))))))))) hr
  · cases h
theorem bl_seg_ok {ss : List (FV Sg)} {x : car .seg} (h : bl_seg ss = some x) {σ : Hv} {cs : List Value} (hr : RowF D σ cs ss) : RowF D σ cs (shape .seg x) := by
  unfold bl_seg at h
  split at h
  · skip
    obtain ⟨y2, h2, h⟩ := Option.bind_eq_some_iff.1 h
    obtain ⟨y3, h3, h⟩ := Option.bind_eq_some_iff.1 h
    obtain ⟨y7, h7, h⟩ := Option.bind_eq_some_iff.1 h
    obtain ⟨y8, h8, h⟩ := Option.bind_eq_some_iff.1 h
    cases h
    exact Fit.row (.cons (fun _ h => h) (.cons (fun _ h => h) (.cons (fit_str h2) (.cons (fit_str h3) (.cons (fun _ h => h) (.cons (fun _ h => h) (.cons (fun _ h => h) (.cons (fit_val h7) (.cons (fit_ex h8) .nil))))))))) hr
  · cases h
theorem bl_span_ok {ss : List (FV Sg)} {x : car .span} (h : bl_span ss = some x) {σ : Hv} {cs : List Value} (hr : RowF D σ cs ss) : RowF D σ cs (shape .span x) := by
  unfold bl_span at h
  split at h
  · skip
    cases h
    exact Fit.row (.cons (fun _ h => h) (.cons (fun _ h => h) .nil)) hr
  · cases h
theorem bl_cool_ok {ss : List (FV Sg)} {x : car .cool} (h : bl_cool ss = some x) {σ : Hv} {cs : List Value} (hr : RowF D σ cs ss) : RowF D σ cs (shape .cool x) := by
  unfold bl_cool at h
  split at h
  · skip
    cases h
    exact Fit.row (.cons (fun _ h => h) (.cons (fun _ h => h) (.cons (fun _ h => h) .nil))) hr
  · cases h
theorem bl_layer_ok {ss : List (FV Sg)} {x : car .layer} (h : bl_layer ss = some x) {σ : Hv} {cs : List Value} (hr : RowF D σ cs ss) : RowF D σ cs (shape .layer x) := by
  unfold bl_layer at h
  split at h
  · skip
    obtain ⟨y5, h5, h⟩ := Option.bind_eq_some_iff.1 h
    cases h
    exact Fit.row (.cons (fun _ h => h) (.cons (fun _ h => h) (.cons (fun _ h => h) (.cons (fun _ h => h) (.cons (fun _ h => h) (.cons (fit_cool h5) .nil)))))) hr
  · cases h
theorem bl_exper_ok {ss : List (FV Sg)} {x : car .exper} (h : bl_exper ss = some x) {σ : Hv} {cs : List Value} (hr : RowF D σ cs ss) : RowF D σ cs (shape .exper x) := by
  unfold bl_exper at h
  split at h
  · skip
    obtain ⟨y5, h5, h⟩ := Option.bind_eq_some_iff.1 h
    obtain ⟨y6, h6, h⟩ := Option.bind_eq_some_iff.1 h
    obtain ⟨y10, h10, h⟩ := Option.bind_eq_some_iff.1 h
    obtain ⟨y11, h11, h⟩ := Option.bind_eq_some_iff.1 h
    cases h
    exact Fit.row (.cons (fun _ h => h) (.cons (fun _ h => h) (.cons (fun _ h => h) (.cons (fun _ h => h) (.cons (fun _ h => h) (.cons (fit_span h5) (.cons (fit_range h6) (.cons (fun _ h => h) (.cons (fun _ h => h) (.cons (fun _ h => h) (.cons (fit_val h10) (.cons (fit_ex h11) .nil)))))))))))) hr
  · cases h
theorem bl_decl_ok {ss : List (FV Sg)} {x : car .decl} (h : bl_decl ss = some x) {σ : Hv} {cs : List Value} (hr : RowF D σ cs ss) : RowF D σ cs (shape .decl x) := by
  unfold bl_decl at h
  split at h
  · skip
    cases h
    exact Fit.row (.cons (fun _ h => h) (.cons (fun _ h => h) (.cons (fun _ h => h) .nil))) hr
  · cases h
theorem bl_settings_ok {ss : List (FV Sg)} {x : car .settings} (h : bl_settings ss = some x) {σ : Hv} {cs : List Value} (hr : RowF D σ cs ss) : RowF D σ cs (shape .settings x) := by
  unfold bl_settings at h
  split at h
  · skip
    cases h
    exact Fit.row (.cons (fun _ h => h) (.cons (fun _ h => h) (.cons (fun _ h => h) .nil))) hr
  · cases h
theorem bl_env_ok {ss : List (FV Sg)} {x : car .env} (h : bl_env ss = some x) {σ : Hv} {cs : List Value} (hr : RowF D σ cs ss) : RowF D σ cs (shape .env x) := by
  unfold bl_env at h
  split at h
  · skip
    obtain ⟨y3, h3, h⟩ := Option.bind_eq_some_iff.1 h
    obtain ⟨y4, h4, h⟩ := Option.bind_eq_some_iff.1 h
    obtain ⟨y5, h5, h⟩ := Option.bind_eq_some_iff.1 h
    obtain ⟨y6, h6, h⟩ := Option.bind_eq_some_iff.1 h
    obtain ⟨y7, h7, h⟩ := Option.bind_eq_some_iff.1 h
    cases h
    exact Fit.row (.cons (fun _ h => h) (.cons (fun _ h => h) (.cons (fun _ h => h) (.cons (fit_decl h3) (.cons (fit_seg h4) (.cons (fit_flag h5) (.cons (fit_layer h6) (.cons (fit_exper h7) .nil)))))))) hr
  · cases h
theorem bl_edge_ok {ss : List (FV Sg)} {x : car .edge} (h : bl_edge ss = some x) {σ : Hv} {cs : List Value} (hr : RowF D σ cs ss) : RowF D σ cs (shape .edge x) := by
  unfold bl_edge at h
  split at h
  · skip
    cases h
    exact Fit.row (.cons (fun _ h => h) (.cons (fun _ h => h) .nil)) hr
  · cases h
theorem bl_node_ok {ss : List (FV Sg)} {x : car .node} (h : bl_node ss = some x) {σ : Hv} {cs : List Value} (hr : RowF D σ cs ss) : RowF D σ cs (shape .node x) := by
  unfold bl_node at h
  split at h
  · skip
    cases h
    exact Fit.row (.cons (fun _ h => h) (.cons (fun _ h => h) (.cons (fun _ h => h) .nil))) hr
  · cases h
theorem bl_a3_ok {ss : List (FV Sg)} {x : car .a3} (h : bl_a3 ss = some x) {σ : Hv} {cs : List Value} (hr : RowF D σ cs ss) : RowF D σ cs (shape .a3 x) := by
  unfold bl_a3 at h
  split at h
  · skip
    cases h
    exact Fit.row (.cons (fun _ h => h) (.cons (fun _ h => h) (.cons (fun _ h => h) .nil))) hr
  · cases h
theorem bl_acc_ok {ss : List (FV Sg)} {x : car .acc} (h : bl_acc ss = some x) {σ : Hv} {cs : List Value} (hr : RowF D σ cs ss) : RowF D σ cs (shape .acc x) := by
  unfold bl_acc at h
  split at h
  · skip
    cases h
    exact Fit.row (.cons (fun _ h => h) (.cons (fun _ h => h) .nil)) hr
  · cases h
def zc : C → List Value
  | .i64 => [.int .i64 0]
  | .u8 => [.int .u8 0]
  | .bool => [.bool false]
  | .str => [.string ⟨#[]⟩]
  | .strs => [.slice none 0 0]
  | .val => [.int .i64 0, .int .i64 0, .string ⟨#[]⟩, .slice none 0 0]
  | .attr => [.string ⟨#[]⟩, .int .i64 0, .int .i64 0, .string ⟨#[]⟩, .slice none 0 0]
  | .ctx => [.string ⟨#[]⟩, .string ⟨#[]⟩, .slice none 0 0]
  | .subj => [.slice none 0 0]
  | .ex => [.int .i64 0, .string ⟨#[]⟩, .string ⟨#[]⟩, .slice none 0 0, .slice none 0 0]
  | .range => [.int .i64 0, .int .i64 0, .int .i64 0]
  | .serve => [.int .i64 0, .string ⟨#[]⟩, .string ⟨#[]⟩, .string ⟨#[]⟩, .slice none 0 0]
  | .target => [.string ⟨#[]⟩, .int .i64 0, .slice none 0 0]
  | .prereq => [.string ⟨#[]⟩, .int .i64 0]
  | .rule => [.string ⟨#[]⟩, .int .i64 0, .string ⟨#[]⟩, .string ⟨#[]⟩, .slice none 0 0, .slice none 0 0, .int .i64 0, .string ⟨#[]⟩, .string ⟨#[]⟩, .string ⟨#[]⟩, .slice none 0 0]
  | .flag => [.string ⟨#[]⟩, .int .i64 0, .slice none 0 0, .bool false, .int .i64 0, .slice none 0 0, .slice none 0 0, .slice none 0 0, .int .i64 0, .string ⟨#[]⟩, .string ⟨#[]⟩, .string ⟨#[]⟩, .slice none 0 0]
  | .seg => [.string ⟨#[]⟩, .string ⟨#[]⟩, .slice none 0 0, .slice none 0 0, .int .i64 0, .string ⟨#[]⟩, .string ⟨#[]⟩, .slice none 0 0, .slice none 0 0]
  | .span => [.int .i64 0, .int .i64 0]
  | .cool => [.int .i64 0, .int .i64 0, .int .i64 0]
  | .layer => [.string ⟨#[]⟩, .string ⟨#[]⟩, .string ⟨#[]⟩, .int .i64 0, .int .i64 0, .slice none 0 0]
  | .exper => [.string ⟨#[]⟩, .string ⟨#[]⟩, .string ⟨#[]⟩, .string ⟨#[]⟩, .int .i64 0, .slice none 0 0, .slice none 0 0, .int .i64 0, .string ⟨#[]⟩, .string ⟨#[]⟩, .slice none 0 0, .slice none 0 0]
  | .decl => [.string ⟨#[]⟩, .string ⟨#[]⟩, .int .i64 0]
  | .settings => [.string ⟨#[]⟩, .string ⟨#[]⟩, .int .i64 0]
  | .env => [.string ⟨#[]⟩, .string ⟨#[]⟩, .int .i64 0, .slice none 0 0, .slice none 0 0, .slice none 0 0, .slice none 0 0, .slice none 0 0]
  | .edge => [.string ⟨#[]⟩, .string ⟨#[]⟩]
  | .node => [.int .i64 0, .int .i64 0, .int .i64 0]
  | .a3 => [.int .i64 0, .int .i64 0, .int .i64 0]
  | .acc => [.int .u8 0, .int .u8 0]
theorem zc_ok : ∀ (T : C) (σ : Hv), RowF D σ (zc T) (D.shape T (D.zero T))
  | .i64, _ => (row_cons (.int _ _) row_nil)
  | .u8, _ => (row_cons (.int _ _) row_nil)
  | .bool, _ => (row_cons (.bool _) row_nil)
  | .str, _ => (row_cons (.str _) row_nil)
  | .strs, _ => (row_cons (nil_sl _) row_nil)
  | .val, _ => (row_cons (.int _ _) (row_cons (.int _ _) (row_cons (.str _) (row_cons (nil_sl _) row_nil))))
  | .attr, _ => (row_cons (.str _) (row_cons (.int _ _) (row_cons (.int _ _) (row_cons (.str _) (row_cons (nil_sl _) row_nil)))))
  | .ctx, _ => (row_cons (.str _) (row_cons (.str _) (row_cons (nil_sl _) row_nil)))
  | .subj, _ => (row_cons (nil_sl _) row_nil)
  | .ex, _ => (row_cons (.int _ _) (row_cons (.str _) (row_cons (.str _) (row_cons (nil_sl _) (row_cons (nil_sl _) row_nil)))))
  | .range, _ => (row_cons (.int _ _) (row_cons (.int _ _) (row_cons (.int _ _) row_nil)))
  | .serve, _ => (row_cons (.int _ _) (row_cons (.str _) (row_cons (.str _) (row_cons (.str _) (row_cons (nil_sl _) row_nil)))))
  | .target, _ => (row_cons (.str _) (row_cons (.int _ _) (row_cons (nil_sl _) row_nil)))
  | .prereq, _ => (row_cons (.str _) (row_cons (.int _ _) row_nil))
  | .rule, _ => (row_cons (.str _) (row_cons (.int _ _) (row_cons (.str _) (row_cons (.str _) (row_cons (nil_sl _) (row_cons (nil_sl _) (row_cons (.int _ _) (row_cons (.str _) (row_cons (.str _) (row_cons (.str _) (row_cons (nil_sl _) row_nil)))))))))))
  | .flag, _ => (row_cons (.str _) (row_cons (.int _ _) (row_cons (nil_sl _) (row_cons (.bool _) (row_cons (.int _ _) (row_cons (nil_sl _) (row_cons (nil_sl _) (row_cons (nil_sl _) (row_cons (.int _ _) (row_cons (.str _) (row_cons (.str _) (row_cons (.str _) (row_cons (nil_sl _) row_nil)))))))))))))
  | .seg, _ => (row_cons (.str _) (row_cons (.str _) (row_cons (nil_sl _) (row_cons (nil_sl _) (row_cons (.int _ _) (row_cons (.str _) (row_cons (.str _) (row_cons (nil_sl _) (row_cons (nil_sl _) row_nil)))))))))
  | .span, _ => (row_cons (.int _ _) (row_cons (.int _ _) row_nil))
  | .cool, _ => (row_cons (.int _ _) (row_cons (.int _ _) (row_cons (.int _ _) row_nil)))
  | .layer, _ => (row_cons (.str _) (row_cons (.str _) (row_cons (.str _) (row_cons (.int _ _) (row_cons (.int _ _) (row_cons (nil_sl _) row_nil))))))
  | .exper, _ => (row_cons (.str _) (row_cons (.str _) (row_cons (.str _) (row_cons (.str _) (row_cons (.int _ _) (row_cons (nil_sl _) (row_cons (nil_sl _) (row_cons (.int _ _) (row_cons (.str _) (row_cons (.str _) (row_cons (nil_sl _) (row_cons (nil_sl _) row_nil))))))))))))
  | .decl, _ => (row_cons (.str _) (row_cons (.str _) (row_cons (.int _ _) row_nil)))
  | .settings, _ => (row_cons (.str _) (row_cons (.str _) (row_cons (.int _ _) row_nil)))
  | .env, _ => (row_cons (.str _) (row_cons (.str _) (row_cons (.int _ _) (row_cons (nil_sl _) (row_cons (nil_sl _) (row_cons (nil_sl _) (row_cons (nil_sl _) (row_cons (nil_sl _) row_nil))))))))
  | .edge, _ => (row_cons (.str _) (row_cons (.str _) row_nil))
  | .node, _ => (row_cons (.int _ _) (row_cons (.int _ _) (row_cons (.int _ _) row_nil)))
  | .a3, _ => (row_cons (.int _ _) (row_cons (.int _ _) (row_cons (.int _ _) row_nil)))
  | .acc, _ => (row_cons (.int _ _) (row_cons (.int _ _) row_nil))
theorem D_ok : D.Ok where
  len T x := by cases T <;> rfl
  pos T := by cases T <;> decide
  bld T ss x σ cs h hr := by
    cases T with
    | i64 => exact bl_i64_ok h hr
    | u8 => exact bl_u8_ok h hr
    | bool => exact bl_bool_ok h hr
    | str => exact bl_str_ok h hr
    | strs => exact bl_strs_ok h hr
    | val => exact bl_val_ok h hr
    | attr => exact bl_attr_ok h hr
    | ctx => exact bl_ctx_ok h hr
    | subj => exact bl_subj_ok h hr
    | ex => exact bl_ex_ok h hr
    | range => exact bl_range_ok h hr
    | serve => exact bl_serve_ok h hr
    | target => exact bl_target_ok h hr
    | prereq => exact bl_prereq_ok h hr
    | rule => exact bl_rule_ok h hr
    | flag => exact bl_flag_ok h hr
    | seg => exact bl_seg_ok h hr
    | span => exact bl_span_ok h hr
    | cool => exact bl_cool_ok h hr
    | layer => exact bl_layer_ok h hr
    | exper => exact bl_exper_ok h hr
    | decl => exact bl_decl_ok h hr
    | settings => exact bl_settings_ok h hr
    | env => exact bl_env_ok h hr
    | edge => exact bl_edge_ok h hr
    | node => exact bl_node_ok h hr
    | a3 => exact bl_a3_ok h hr
    | acc => exact bl_acc_ok h hr
theorem zero_at {t : TypeId} {T : C} (h : ((Go.Proofs.Tryz.prog.info? t).bind (·.zero)).map (fun z => z.cells.toList) = some (zc T)) {i : TypeInfo} {z : Value} (hi : Go.Proofs.Tryz.prog.info? t = some i) (hz : i.zero = some z) (σ : Hv) : RowF D σ z.cells.toList (D.shape T (D.zero T)) := by
  rw [hi] at h
  simp only [Option.bind_some, hz, Option.map_some, Option.some.injEq] at h
  rw [h]; exact zc_ok T σ
theorem okP : D.OkP Go.Proofs.Tryz.prog where
  ok := D_ok
  zero t T i z ht hi hz σ := by
    simp only [D] at ht
    split at ht <;> cases ht
    · exact zero_at (T := .i64) (by kernel_rfl) hi hz σ
    · exact zero_at (T := .i64) (by kernel_rfl) hi hz σ
    · exact zero_at (T := .bool) (by kernel_rfl) hi hz σ
    · exact zero_at (T := .u8) (by kernel_rfl) hi hz σ
    · exact zero_at (T := .str) (by kernel_rfl) hi hz σ
    · exact zero_at (T := .ex) (by kernel_rfl) hi hz σ
    · exact zero_at (T := .strs) (by kernel_rfl) hi hz σ
    · exact zero_at (T := .seg) (by kernel_rfl) hi hz σ
    · exact zero_at (T := .i64) (by kernel_rfl) hi hz σ
    · exact zero_at (T := .subj) (by kernel_rfl) hi hz σ
    · exact zero_at (T := .settings) (by kernel_rfl) hi hz σ
    · exact zero_at (T := .env) (by kernel_rfl) hi hz σ
    · exact zero_at (T := .ctx) (by kernel_rfl) hi hz σ
    · exact zero_at (T := .edge) (by kernel_rfl) hi hz σ
    · exact zero_at (T := .serve) (by kernel_rfl) hi hz σ
    · exact zero_at (T := .flag) (by kernel_rfl) hi hz σ
    · exact zero_at (T := .layer) (by kernel_rfl) hi hz σ
    · exact zero_at (T := .exper) (by kernel_rfl) hi hz σ
    · exact zero_at (T := .val) (by kernel_rfl) hi hz σ
    · exact zero_at (T := .decl) (by kernel_rfl) hi hz σ
    · exact zero_at (T := .prereq) (by kernel_rfl) hi hz σ
    · exact zero_at (T := .target) (by kernel_rfl) hi hz σ
    · exact zero_at (T := .rule) (by kernel_rfl) hi hz σ
    · exact zero_at (T := .cool) (by kernel_rfl) hi hz σ
    · exact zero_at (T := .span) (by kernel_rfl) hi hz σ
    · exact zero_at (T := .attr) (by kernel_rfl) hi hz σ
    · exact zero_at (T := .range) (by kernel_rfl) hi hz σ
    · exact zero_at (T := .a3) (by kernel_rfl) hi hz σ
    · exact zero_at (T := .node) (by kernel_rfl) hi hz σ
    · exact zero_at (T := .acc) (by kernel_rfl) hi hz σ
  arr t T N h := by cases h
  flat T h x := by cases T <;> first | rfl | cases h
  map t K V h := by
    simp only [D] at h
    split at h <;> cases h
    · exact ⟨9, 33, by kernel_rfl, keyOk_str (by kernel_rfl), fun x => rfl, by kernel_rfl, by kernel_rfl, by kernel_rfl, _, (fun w => by
        have e : (Go.Proofs.Tryz.prog.info? 33).bind (·.zero) = some (.agg #[.string ⟨#[]⟩, .string ⟨#[]⟩, .slice none 0 0, .slice none 0 0, .int .i64 0, .string ⟨#[]⟩, .string ⟨#[]⟩, .slice none 0 0, .slice none 0 0]) := by kernel_rfl
        obtain ⟨i, hi, hz⟩ := Option.bind_eq_some_iff.1 e
        simp [zeroValue, typeInfo, hi, hz, asV, zc]), fun σ => ⟨zc .seg, zc_ok .seg σ, rfl⟩⟩
    · exact ⟨9, 30, by kernel_rfl, keyOk_str (by kernel_rfl), fun x => rfl, by kernel_rfl, by kernel_rfl, by kernel_rfl, _, (fun w => by
        have e : (Go.Proofs.Tryz.prog.info? 30).bind (·.zero) = some (.slice none 0 0) := by kernel_rfl
        obtain ⟨i, hi, hz⟩ := Option.bind_eq_some_iff.1 e
        simp [zeroValue, typeInfo, hi, hz, asV, zc]), fun σ => ⟨zc .strs, zc_ok .strs σ, rfl⟩⟩
    · exact ⟨9, 4, by kernel_rfl, keyOk_str (by kernel_rfl), fun x => rfl, by kernel_rfl, by kernel_rfl, by kernel_rfl, _, (fun w => by
        have e : (Go.Proofs.Tryz.prog.info? 4).bind (·.zero) = some (.bool false) := by kernel_rfl
        obtain ⟨i, hi, hz⟩ := Option.bind_eq_some_iff.1 e
        simp [zeroValue, typeInfo, hi, hz, asV, zc]), fun σ => ⟨zc .bool, zc_ok .bool σ, rfl⟩⟩
    · exact ⟨253, 3, by kernel_rfl, keyOk_flat (ks := [.int .i64, .int .i64, .int .i64]) (by kernel_rfl) (by decide) (fun x => rfl) (fun a b h => by
        obtain ⟨a0, a1, a2⟩ := a; obtain ⟨b0, b1, b2⟩ := b
        simp only [D, shape, List.cons.injEq, FV.int.injEq, true_and, and_true] at h
        simp [h]), fun x => rfl, by kernel_rfl, by kernel_rfl, by kernel_rfl, _, (fun w => by
        have e : (Go.Proofs.Tryz.prog.info? 3).bind (·.zero) = some (.int .i64 0) := by kernel_rfl
        obtain ⟨i, hi, hz⟩ := Option.bind_eq_some_iff.1 e
        simp [zeroValue, typeInfo, hi, hz, asV, zc]), fun σ => ⟨zc .i64, zc_ok .i64 σ, rfl⟩⟩
    · exact ⟨214, 3, by kernel_rfl, keyOk_flat (ks := [.int .i64, .int .i64, .int .i64]) (by kernel_rfl) (by decide) (fun x => rfl) (fun a b h => by
        obtain ⟨a0, a1, a2⟩ := a; obtain ⟨b0, b1, b2⟩ := b
        simp only [D, shape, List.cons.injEq, FV.int.injEq, true_and, and_true] at h
        simp [h]), fun x => rfl, by kernel_rfl, by kernel_rfl, by kernel_rfl, _, (fun w => by
        have e : (Go.Proofs.Tryz.prog.info? 3).bind (·.zero) = some (.int .i64 0) := by kernel_rfl
        obtain ⟨i, hi, hz⟩ := Option.bind_eq_some_iff.1 e
        simp [zeroValue, typeInfo, hi, hz, asV, zc]), fun σ => ⟨zc .i64, zc_ok .i64 σ, rfl⟩⟩
    · exact ⟨3, 4, by kernel_rfl, keyOk_int (q := .i64) (by kernel_rfl), fun x => rfl, by kernel_rfl, by kernel_rfl, by kernel_rfl, _, (fun w => by
        have e : (Go.Proofs.Tryz.prog.info? 4).bind (·.zero) = some (.bool false) := by kernel_rfl
        obtain ⟨i, hi, hz⟩ := Option.bind_eq_some_iff.1 e
        simp [zeroValue, typeInfo, hi, hz, asV, zc]), fun σ => ⟨zc .bool, zc_ok .bool σ, rfl⟩⟩
noncomputable def E0 : Ev Sg := ⟨Go.Proofs.Tryz.prog, D, fun _ => none, fun g => g == 42 || g == 44 || g == 50 || g == 54 || g == 61 || g == 79 || g == 87 || g == 88 || g == 90 || g == 123 || g == 124 || g == 129 || g == 130 || g == 132 || g == 138 || g == 162 || g == 163 || g == 164 || g == 167 || g == 168 || g == 191 || g == 196 || g == 197 || g == 199 || g == 202 || g == 220, fun _ => none, 0⟩
theorem ok_E0 : EvOk E0 := ⟨okP, by kernel_rfl, fun g c h => (by cases h), fun g h => (by
  have hg : g = 42 ∨ g = 44 ∨ g = 50 ∨ g = 54 ∨ g = 61 ∨ g = 79 ∨ g = 87 ∨ g = 88 ∨ g = 90 ∨ g = 123 ∨ g = 124 ∨ g = 129 ∨ g = 130 ∨ g = 132 ∨ g = 138 ∨ g = 162 ∨ g = 163 ∨ g = 164 ∨ g = 167 ∨ g = 168 ∨ g = 191 ∨ g = 196 ∨ g = 197 ∨ g = 199 ∨ g = 202 ∨ g = 220 := by simpa [E0, or_assoc] using h
  rcases hg with rfl | rfl | rfl | rfl | rfl | rfl | rfl | rfl | rfl | rfl | rfl | rfl | rfl | rfl | rfl | rfl | rfl | rfl | rfl | rfl | rfl | rfl | rfl | rfl | rfl | rfl
  · exact ent_of (fn := (Go.Proofs.Tryz.prog.funcs[42]?).getD default) (c := ((Go.Proofs.Tryz.prog.funcs[42]?).getD default).body.getD .skip) (by kernel_rfl) (by kernel_rfl) (by kernel_rfl)
  · exact ent_of (fn := (Go.Proofs.Tryz.prog.funcs[44]?).getD default) (c := ((Go.Proofs.Tryz.prog.funcs[44]?).getD default).body.getD .skip) (by kernel_rfl) (by kernel_rfl) (by kernel_rfl)
  · exact ent_of (fn := (Go.Proofs.Tryz.prog.funcs[50]?).getD default) (c := ((Go.Proofs.Tryz.prog.funcs[50]?).getD default).body.getD .skip) (by kernel_rfl) (by kernel_rfl) (by kernel_rfl)
  · exact ent_of (fn := (Go.Proofs.Tryz.prog.funcs[54]?).getD default) (c := ((Go.Proofs.Tryz.prog.funcs[54]?).getD default).body.getD .skip) (by kernel_rfl) (by kernel_rfl) (by kernel_rfl)
  · exact ent_of (fn := (Go.Proofs.Tryz.prog.funcs[61]?).getD default) (c := ((Go.Proofs.Tryz.prog.funcs[61]?).getD default).body.getD .skip) (by kernel_rfl) (by kernel_rfl) (by kernel_rfl)
  · exact ent_of (fn := (Go.Proofs.Tryz.prog.funcs[79]?).getD default) (c := ((Go.Proofs.Tryz.prog.funcs[79]?).getD default).body.getD .skip) (by kernel_rfl) (by kernel_rfl) (by kernel_rfl)
  · exact ent_of (fn := (Go.Proofs.Tryz.prog.funcs[87]?).getD default) (c := ((Go.Proofs.Tryz.prog.funcs[87]?).getD default).body.getD .skip) (by kernel_rfl) (by kernel_rfl) (by kernel_rfl)
  · exact ent_of (fn := (Go.Proofs.Tryz.prog.funcs[88]?).getD default) (c := ((Go.Proofs.Tryz.prog.funcs[88]?).getD default).body.getD .skip) (by kernel_rfl) (by kernel_rfl) (by kernel_rfl)
  · exact ent_of (fn := (Go.Proofs.Tryz.prog.funcs[90]?).getD default) (c := ((Go.Proofs.Tryz.prog.funcs[90]?).getD default).body.getD .skip) (by kernel_rfl) (by kernel_rfl) (by kernel_rfl)
  · exact ent_of (fn := (Go.Proofs.Tryz.prog.funcs[123]?).getD default) (c := ((Go.Proofs.Tryz.prog.funcs[123]?).getD default).body.getD .skip) (by kernel_rfl) (by kernel_rfl) (by kernel_rfl)
  · exact ent_of (fn := (Go.Proofs.Tryz.prog.funcs[124]?).getD default) (c := ((Go.Proofs.Tryz.prog.funcs[124]?).getD default).body.getD .skip) (by kernel_rfl) (by kernel_rfl) (by kernel_rfl)
  · exact ent_of (fn := (Go.Proofs.Tryz.prog.funcs[129]?).getD default) (c := ((Go.Proofs.Tryz.prog.funcs[129]?).getD default).body.getD .skip) (by kernel_rfl) (by kernel_rfl) (by kernel_rfl)
  · exact ent_of (fn := (Go.Proofs.Tryz.prog.funcs[130]?).getD default) (c := ((Go.Proofs.Tryz.prog.funcs[130]?).getD default).body.getD .skip) (by kernel_rfl) (by kernel_rfl) (by kernel_rfl)
  · exact ent_of (fn := (Go.Proofs.Tryz.prog.funcs[132]?).getD default) (c := ((Go.Proofs.Tryz.prog.funcs[132]?).getD default).body.getD .skip) (by kernel_rfl) (by kernel_rfl) (by kernel_rfl)
  · exact ent_of (fn := (Go.Proofs.Tryz.prog.funcs[138]?).getD default) (c := ((Go.Proofs.Tryz.prog.funcs[138]?).getD default).body.getD .skip) (by kernel_rfl) (by kernel_rfl) (by kernel_rfl)
  · exact ent_of (fn := (Go.Proofs.Tryz.prog.funcs[162]?).getD default) (c := ((Go.Proofs.Tryz.prog.funcs[162]?).getD default).body.getD .skip) (by kernel_rfl) (by kernel_rfl) (by kernel_rfl)
  · exact ent_of (fn := (Go.Proofs.Tryz.prog.funcs[163]?).getD default) (c := ((Go.Proofs.Tryz.prog.funcs[163]?).getD default).body.getD .skip) (by kernel_rfl) (by kernel_rfl) (by kernel_rfl)
  · exact ent_of (fn := (Go.Proofs.Tryz.prog.funcs[164]?).getD default) (c := ((Go.Proofs.Tryz.prog.funcs[164]?).getD default).body.getD .skip) (by kernel_rfl) (by kernel_rfl) (by kernel_rfl)
  · exact ent_of (fn := (Go.Proofs.Tryz.prog.funcs[167]?).getD default) (c := ((Go.Proofs.Tryz.prog.funcs[167]?).getD default).body.getD .skip) (by kernel_rfl) (by kernel_rfl) (by kernel_rfl)
  · exact ent_of (fn := (Go.Proofs.Tryz.prog.funcs[168]?).getD default) (c := ((Go.Proofs.Tryz.prog.funcs[168]?).getD default).body.getD .skip) (by kernel_rfl) (by kernel_rfl) (by kernel_rfl)
  · exact ent_of (fn := (Go.Proofs.Tryz.prog.funcs[191]?).getD default) (c := ((Go.Proofs.Tryz.prog.funcs[191]?).getD default).body.getD .skip) (by kernel_rfl) (by kernel_rfl) (by kernel_rfl)
  · exact ent_of (fn := (Go.Proofs.Tryz.prog.funcs[196]?).getD default) (c := ((Go.Proofs.Tryz.prog.funcs[196]?).getD default).body.getD .skip) (by kernel_rfl) (by kernel_rfl) (by kernel_rfl)
  · exact ent_of (fn := (Go.Proofs.Tryz.prog.funcs[197]?).getD default) (c := ((Go.Proofs.Tryz.prog.funcs[197]?).getD default).body.getD .skip) (by kernel_rfl) (by kernel_rfl) (by kernel_rfl)
  · exact ent_of (fn := (Go.Proofs.Tryz.prog.funcs[199]?).getD default) (c := ((Go.Proofs.Tryz.prog.funcs[199]?).getD default).body.getD .skip) (by kernel_rfl) (by kernel_rfl) (by kernel_rfl)
  · exact ent_of (fn := (Go.Proofs.Tryz.prog.funcs[202]?).getD default) (c := ((Go.Proofs.Tryz.prog.funcs[202]?).getD default).body.getD .skip) (by kernel_rfl) (by kernel_rfl) (by kernel_rfl)
  · exact ent_of (fn := (Go.Proofs.Tryz.prog.funcs[220]?).getD default) (c := ((Go.Proofs.Tryz.prog.funcs[220]?).getD default).body.getD .skip) (by kernel_rfl) (by kernel_rfl) (by kernel_rfl))⟩
theorem h_E0 : Ev3 E0 Go.Proofs.Tryz.prog D := ⟨ok_E0, rfl, rfl⟩
end Go.En
end
section
namespace Go.Fl
open Go Go.RowKit Go.ChangeShapes Go.WideShapes
def hv (W : World) : Hv := fun b => W.heap[b]?
theorem hv_view (W : World) : View (hv W) W := fun _ _ h => h
theorem hv_row {W : World} {base n : Nat} {a : Addr} {cs : List Value} (h : W.cells? base a n = some cs) : cs.length = n ∧ VRow (hv W) a cs := by
  obtain ⟨_, h1, h2⟩ := World.cells?_some h
  refine ⟨h1, fun j v hj => ?_⟩
  have hj' : j < n := by rw [← h1]; exact (List.getElem?_eq_some_iff.1 hj).1
  exact (h2 j hj').trans hj
theorem list_of {α : Type} {Q : Nat → α → Prop} (n : Nat) (h : ∀ i, i < n → ∃ x, Q i x) : ∃ l : List α, l.length = n ∧ ∀ i x, l[i]? = some x → Q i x := by
  induction n with
  | zero => exact ⟨[], rfl, fun i x hx => by simp at hx⟩
  | succ n ih =>
    obtain ⟨l, hl, hq⟩ := ih fun i hi => h i (by omega)
    obtain ⟨x, hx⟩ := h n (by omega)
    refine ⟨l ++ [x], by simp [hl], fun i y hy => ?_⟩
    rcases Nat.lt_or_ge i l.length with hi | hi
    · rw [List.getElem?_append_left hi] at hy; exact hq i y hy
    · rw [List.getElem?_append_right hi] at hy
      have h0 : i - l.length = 0 := by
        rcases Nat.eq_zero_or_pos (i - l.length) with h0 | h0
        · exact h0
        · obtain ⟨m, hm⟩ : ∃ m, i - l.length = m + 1 := ⟨i - l.length - 1, by omega⟩
          rw [hm] at hy; simp at hy
      rw [h0] at hy
      simp at hy
      subst hy
      have : i = n := by omega
      subst this; exact hx
theorem below_of {w w1 : World} (h : Keeps [] w w1) : Below w.heap.size w w1 := ⟨h.os, h.tape, h.output, h.size, fun k hk => h.block k hk (by simp)⟩
section
variable {H : Type} {enc : TypeId × Value → H} {P : Program} {W : World}
theorem sized_at {ts : List TypeId} {ds : List (DataW H)} (h : (DataW.weightsEach P ts ds).all (· ≤ reachBytes) = true) {j : Nat} {t : TypeId} {d : DataW H} (ht : ts[j]? = some t) (hd : ds[j]? = some d) : ∀ n ∈ d.weights P t, n ≤ reachBytes := fun n hn => by
  simpa using List.all_eq_true.1 h _ (DataW.weights_mem_each ht hd n hn)
/-- A slice among the arguments. -/
theorem rd_slice {α : Type} {size : Nat} {R : Hv → List Value → α → Prop} {t e : TypeId} {base : Nat} {spare : Nat → Bool} {held : Bool} {v : Value} {d : DataW H} {ps : List MemPlace} (hu : P.underlying t = some (.slice e)) (hc : P.cellsOf e = size) (hb : 1 ≤ P.bytesOf e)
    (hel : ∀ (n : Nat) (cs : List Value) x, cs.length = size → DataW.trod enc P W base spare held n e cs = some x → ∃ y : α, R (hv W) cs y)
    {r : Reach} {bs : Nat} (hok : Value.okWide P W r bs t v) (h : DataW.Trod enc P W base spare held t v d ps) (hsz : ∀ n ∈ d.weights P t, n ≤ reachBytes) : ∃ l : List α, RSl size R (hv W) v l := by
  obtain ⟨a0, len, cap, rfl⟩ := okWide_slice hu hok
  obtain ⟨fuel, hf⟩ := h
  rcases DataW.trod_slice hu hf with ⟨h0, _⟩ | ⟨a, len', cap', elems, rest, n, _, h0, hx, _, hl, hm, hlen, hE, _, _⟩
  · simp [Value.cells] at h0
    obtain ⟨rfl, rfl, rfl⟩ := h0
    exact ⟨[], RSl.nil⟩
  · simp [Value.cells] at h0
    obtain ⟨rfl, rfl, rfl⟩ := h0
    simp only [Prod.mk.injEq] at hx
    obtain ⟨rfl, _⟩ := hx
    have hlb : len ≤ reachBytes := by
      have h1 := hsz ((elems.map (·.1)).length * P.bytesOf e + (rest.map (·.1)).length * P.bytesOf e) (by simp [DataW.weights, hu, Nat.add_mul])
      rw [List.length_map, hlen] at h1
      have h2 : len * 1 ≤ len * P.bytesOf e := Nat.mul_le_mul_left _ hb
      omega
    obtain ⟨l, hl1, hl2⟩ := list_of (α := α) (Q := fun i y => ∃ cs, cs.length = size ∧ VRow (hv W) (a.add (i * size)) cs ∧ R (hv W) cs y) len (fun i hi => by
      have h1 := hE i hi
      rw [hc] at h1
      rw [List.getElem?_eq_getElem (by omega)] at h1
      obtain ⟨cs, h3, h4⟩ := Option.bind_eq_some_iff.1 h1
      obtain ⟨h5, h6⟩ := hv_row h3
      obtain ⟨y, hy⟩ := hel _ _ _ h5 h4
      exact ⟨y, cs, h5, h6, hy⟩)
    refine ⟨l, some a, cap, by rw [hl1], by omega, by unfold reachBytes at hlb; omega, fun i x hx => ?_⟩
    obtain ⟨cs, h1, h2, h3⟩ := hl2 i x hx
    exact ⟨a, cs, rfl, h1, h2, h3⟩
theorem rd_u8 {t e : TypeId} {base : Nat} {spare : Nat → Bool} {held : Bool} {v : Value} {d : DataW H} {ps : List MemPlace} (hu : P.underlying t = some (.slice e)) (he : P.underlying e = some (.int .u8)) (hc : P.cellsOf e = 1) (hb : 1 ≤ P.bytesOf e)
    {r : Reach} {bs : Nat} (hok : Value.okWide P W r bs t v) (h : DataW.Trod enc P W base spare held t v d ps) (hsz : ∀ n ∈ d.weights P t, n ≤ reachBytes) : ∃ l : List UInt8, RSl 1 RU8 (hv W) v l :=
  rd_slice hu hc hb (fun n cs x _ hx => by
    obtain ⟨a, h1, h2, h3⟩ := DataW.trod_int he hx
    refine ⟨UInt8.ofNat a.toNat, ?_⟩
    subst h1
    have hw := h3
    simp only [Lit.wf, Bool.and_eq_true, decide_eq_true_eq] at hw
    have hlo : (0 : Int) ≤ a := by have := hw.1; simp [IntKind.min] at this; exact this
    have hhi : a ≤ 255 := by have := hw.2; simp [IntKind.max] at this; exact this
    show _ = _
    have h9 : a.toNat < 256 := by omega
    simp [Nat.mod_eq_of_lt h9, Int.toNat_of_nonneg hlo]) hok h hsz
end
end Go.Fl
end
section
namespace Go.En
open Go Go.RowKit Go.Fl Go.Fl.Lk Go.Fx
section
variable {W : World}
theorem vr_of {P : Program} {name : String} {g : Nat} {cs : Array Value} (hg : P.globalNamed name = some g) (h : W.var? P name = some cs) : VRow (hv W) ⟨g, 0, none⟩ cs.toList := fun j v hj => by
  have h1 := World.var?_cell hg h j
  rw [addr_lit]
  show W.cell? ⟨g, 0 + j, none⟩ = some v
  rw [Nat.zero_add, h1]; simpa using hj
theorem gl_arr {P : Program} {name : String} {g : Nat} {t e : TypeId} {N : Nat} (T : Sg.C) (l : List (Sg.car T)) (dat : Sg.car T → DataW Unit) (hg : P.globalNamed name = some g) (hty : (P.globals[g]?).map (·.type) = some t)
    (hu : P.underlying t = some (.array N e)) (hc : P.cellsOf e = D.size T) (hct : P.cellsOf t = l.length * D.size T) (hN : l.length = N)
    (hel : ∀ x ∈ l, ∀ n cs p, DataW.trod (fun _ => ()) P W 0 (fun _ => true) false n e cs = some (dat x, p) → RowF D (hv W) cs (D.shape T x)) (h : Lib.VarReads P W name (.agg (l.map dat))) :
    SRep D (fun _ => none) (hv W) (.pointer (some ⟨g, 0, none⟩)) (.fap T N l) := by
  obtain ⟨g', t', cs, fuel, p, hg', hty', hv', hd⟩ := h
  obtain rfl := Option.some.inj (hg.symm.trans hg')
  obtain rfl := Option.some.inj (hty.symm.trans hty')
  obtain ⟨xs, m, _, hx, hl, hxl, hall⟩ := DataW.trod_array hu hd
  have hx1 : xs.map (·.1) = l.map dat := by
    have := congrArg Prod.fst hx
    simpa using this.symm
  refine .fap ⟨g, 0, none⟩ cs.toList T N l hN (vr_of hg hv') (by rw [hl, hct]) fun i x hxi => ?_
  have hi : i < N := by rw [← hN]; exact lt_of_getq hxi
  have h1 := hall i hi
  rw [hc] at h1
  have h2 : (xs.map (·.1))[i]? = some (dat x) := by rw [hx1]; simp [hxi]
  rw [List.getElem?_map] at h2
  obtain ⟨y, hy, hy2⟩ := Option.map_eq_some_iff.1 h2
  rw [hy] at h1
  obtain ⟨y1, y2⟩ := y
  have hy2 : y1 = dat x := hy2
  subst hy2
  exact hel x (List.mem_of_getElem? hxi) _ _ _ h1
theorem gl_ifc {P : Program} {name : String} {g : Nat} {t : TypeId} {ms} {nm : String} {d : DataW Unit} (hg : P.globalNamed name = some g) (hty : (P.globals[g]?).map (·.type) = some t)
    (hu : P.underlying t = some (.interface ms)) (h : Lib.VarReads P W name (.iface nm d)) : SRep D (fun _ => none) (hv W) (.pointer (some ⟨g, 0, none⟩)) (.fptr [.ifc false] 0) := by
  obtain ⟨g', t', cs, fuel, p, hg', hty', hv', hd⟩ := h
  obtain rfl := Option.some.inj (hg.symm.trans hg')
  obtain rfl := Option.some.inj (hty.symm.trans hty')
  have hcs : ∃ u v, cs.toList = [.iface u v] := by
    cases fuel with
    | zero => simp [DataW.trod] at hd
    | succ n =>
      unfold DataW.trod at hd
      rw [hu] at hd
      split at hd <;> simp_all
  obtain ⟨u, v, hcs⟩ := hcs
  have hr := vr_of hg hv'
  rw [hcs] at hr
  exact .fptr ⟨g, 0, none⟩ [.iface u v] [.ifc false] 0 hr ⟨rfl, fun j x s hj hs => by
    match j with
    | 0 => simp at hj hs; subst hj hs; exact .ifcS _ _
    | j + 1 => simp at hj⟩
def dStr (s : ByteArray) : DataW Unit := .lit (.string s.data.toList)
theorem el_str {P : Program} {e : TypeId} (he : P.underlying e = some .string) (x : car .str) (n : Nat) (cs : List Value) (p) (h : DataW.trod (fun _ => ()) P W 0 (fun _ => true) false n e cs = some (dStr x, p)) : RowF D (hv W) cs (D.shape .str x) := by
  obtain ⟨s, rfl, hx, _⟩ := DataW.trod_string he h
  have hx1 := congrArg Prod.fst hx
  simp only [dStr, DataW.lit.injEq, Lit.string.injEq] at hx1
  have hxs : x = s := by
    have h2 : x.data = s.data := Array.toList_inj.1 hx1
    cases x; cases s; simpa using h2
  subst hxs
  exact row_cons (.str _) row_nil
def dInt (k : IntKind) (x : Int) : DataW Unit := .lit (.int k x)
theorem el_int {P : Program} {e : TypeId} {k : IntKind} (he : P.underlying e = some (.int k)) (x : Int) (n : Nat) (cs : List Value) (p) (h : DataW.trod (fun _ => ()) P W 0 (fun _ => true) false n e cs = some (dInt k x, p)) : RowF D (hv W) cs [.int k x] := by
  obtain ⟨s, rfl, hx, _⟩ := DataW.trod_int he h
  have hx1 := congrArg Prod.fst hx
  simp only [dInt, DataW.lit.injEq, Lit.int.injEq, true_and] at hx1
  subst hx1
  exact row_cons (.int _ _) row_nil
def dAcc (x : Acc) : DataW Unit := .agg ([x.lo, x.hi].map fun z => .lit (.int .u8 z))
theorem el_acc {P : Program} {e : TypeId} {fs : Array Field} (he : P.underlying e = some (.struct fs)) (hf : ∀ (i : Nat) (f : Field), fs[i]? = some f → P.underlying f.type = some (.int .u8) ∧ f.offset = i ∧ P.cellsOf f.type = 1) (hct : P.cellsOf e = fs.size)
    (x : car .acc) (n : Nat) (cs : List Value) (p) (h : DataW.trod (fun _ => ()) P W 0 (fun _ => true) false n e cs = some (dAcc x, p)) : RowF D (hv W) cs (D.shape .acc x) := by
  have h1 := Lib.ints_of_struct he hf hct h
  subst h1
  exact row_cons (.int _ _) (row_cons (.int _ _) row_nil)
def dStrs (l : List ByteArray) : DataW Unit := .slice (l.map dStr) []
theorem el_strs {P : Program} {e t : TypeId} (he : P.underlying e = some .string) (ht : P.underlying t = some (.slice e)) (hc : P.cellsOf e = 1) (x : car .strs) (hlen : x.length ≤ 140737488355328) (n : Nat) (cs : List Value) (p)
    (h : DataW.trod (fun _ => ()) P W 0 (fun _ => true) false n t cs = some (dStrs x, p)) : RowF D (hv W) cs (D.shape .strs x) := by
  rcases DataW.trod_slice ht h with ⟨_, h0⟩ | ⟨a, len, cap, elems, rest, m, _, h0, hx, _, hl, hm, hlen2, hE, _, _⟩
  · have := congrArg Prod.fst h0
    cases this
  · subst h0
    have hx1 := congrArg Prod.fst hx
    simp only [dStrs, DataW.slice.injEq] at hx1
    have he1 : elems.map (·.1) = x.map dStr := hx1.1.symm
    have hxl : x.length = len := by
      have := congrArg List.length he1
      simp at this; omega
    subst hxl
    refine row_cons (RepF.ofRSl okP.ok ⟨some a, cap, rfl, hl, hlen, fun i y hy => ?_⟩) row_nil
    have hi := lt_of_getq hy
    have h1 := hE i hi
    have h2 : (elems.map (·.1))[i]? = some (dStr y) := by rw [he1]; simp [hy]
    rw [List.getElem?_map] at h2
    obtain ⟨z, hz, hz2⟩ := Option.map_eq_some_iff.1 h2
    rw [hz, hc] at h1
    obtain ⟨c, h3, h4⟩ := Option.bind_eq_some_iff.1 h1
    obtain ⟨h5, h6⟩ := hv_row h3
    obtain ⟨z1, z2⟩ := z
    have hz2 : z1 = dStr y := hz2
    subst hz2
    exact ⟨a, c, rfl, h5, h6, el_str he y _ _ _ h4⟩
end
abbrev laidL : List (String × DataW Unit) := Go.Proofs.YthpeboomdlgfaaaGreatDoor.Rows.segmentUnfoldsRow.laid
theorem at_laid (i : Nat) {x : String × DataW Unit} (h : laidL[i]? = some x) : x ∈ laidL := List.mem_of_getElem? h
theorem lists_small : ∀ x ∈ tLists, x.length ≤ 140737488355328 := fun x hx => by
  simp only [tLists, List.mem_cons, List.not_mem_nil, or_false] at hx
  rcases hx with rfl | rfl | rfl | rfl | rfl <;> decide
set_option maxRecDepth 100000 in
theorem gl_ok {W : World} (hL : laidMet Go.Proofs.Tryz.prog laidL W) : ∀ g, SRep D (fun _ => none) (hv W) (.pointer (some ⟨g, 0, none⟩)) (D.glob g)
  | 0 => gl_arr (P := Go.Proofs.Tryz.prog) (t := 133) (e := 9) C.str tTexts dStr (by kernel_rfl) (by kernel_rfl) (by kernel_rfl) (by kernel_rfl) (by kernel_rfl) rfl (fun x _ => el_str Go.Proofs.Tryz.underlying9 x) (Lib.laidMet.reads hL (n := "flagstone/flagstonedraw.texts") (at_laid 4 (by kernel_rfl)))
  | 1 => gl_arr (P := Go.Proofs.Tryz.prog) (t := 168) (e := 9) C.str tVersions dStr (by kernel_rfl) (by kernel_rfl) (by kernel_rfl) (by kernel_rfl) (by kernel_rfl) rfl (fun x _ => el_str Go.Proofs.Tryz.underlying9 x) (Lib.laidMet.reads hL (n := "flagstone/flagstonedraw.versions") (at_laid 5 (by kernel_rfl)))
  | 2 => gl_arr (P := Go.Proofs.Tryz.prog) (t := 169) (e := 30) C.strs tLists dStrs (by kernel_rfl) (by kernel_rfl) (by kernel_rfl) (by kernel_rfl) (by kernel_rfl) rfl (fun x hx => el_strs Go.Proofs.Tryz.underlying9 Go.Proofs.Tryz.underlying30 (by kernel_rfl) x (lists_small x hx)) (Lib.laidMet.reads hL (n := "flagstone/flagstonedraw.lists") (at_laid 6 (by kernel_rfl)))
  | 3 => gl_arr (P := Go.Proofs.Tryz.prog) (t := 279) (e := 5) C.u8 tFirst (dInt .u8) (by kernel_rfl) (by kernel_rfl) (by kernel_rfl) (by kernel_rfl) (by kernel_rfl) rfl (fun x _ => el_int Go.Proofs.Tryz.underlying5 x) (Lib.laidMet.reads hL (n := "unicode/utf8.first") (at_laid 9 (by kernel_rfl)))
  | 4 => gl_arr (P := Go.Proofs.Tryz.prog) (t := 282) (e := 281) C.acc tAccept dAcc (by kernel_rfl) (by kernel_rfl) (by kernel_rfl) (by kernel_rfl) (by kernel_rfl) rfl (fun x _ => el_acc Go.Proofs.Tryz.underlying281 (fun i f hf => by
      match i with
      | 0 => cases hf; exact ⟨by kernel_rfl, rfl, by kernel_rfl⟩
      | 1 => cases hf; exact ⟨by kernel_rfl, rfl, by kernel_rfl⟩
      | i + 2 => cases hf) (by kernel_rfl) x) (Lib.laidMet.reads hL (n := "unicode/utf8.acceptRanges") (at_laid 3 (by kernel_rfl)))
  | 6 => gl_ifc (P := Go.Proofs.Tryz.prog) (t := 288) (by kernel_rfl) (by kernel_rfl) Go.Proofs.Tryz.underlying288 (Lib.laidMet.reads hL (n := "strconv.ErrSyntax") (d := Go.Proofs.YthpeboomdlgfaaaGreatDoor.Rows.laid_strconv_ErrSyntax) (at_laid 8 (by kernel_rfl)))
  | 7 => gl_ifc (P := Go.Proofs.Tryz.prog) (t := 288) (by kernel_rfl) (by kernel_rfl) Go.Proofs.Tryz.underlying288 (Lib.laidMet.reads hL (n := "strconv.ErrRange") (d := Go.Proofs.YthpeboomdlgfaaaGreatDoor.Rows.laid_strconv_ErrRange) (at_laid 7 (by kernel_rfl)))
  | 5 => .dead _
  | _ + 8 => .dead _
theorem glb_of_laid {W : World} (hL : laidMetH Go.Proofs.Tryz.prog laidL W) (hsh : W.ShapedOpen Go.Proofs.Tryz.prog) : Glb D (hv W) := by
  rw [MakeChecks.laidMetH_plain _ _ _ (by kernel_rfl)] at hL
  refine ⟨gl_ok hL, fun g k hk => ?_⟩
  have h5 : g = 5 ∧ k = .i64 := by
    by_cases h : g = 5
    · subst h; exact ⟨rfl, (Option.some.inj hk).symm⟩
    · have hk : (if g = 5 then some IntKind.i64 else none) = some k := hk
      rw [if_neg h] at hk; cases hk
  obtain ⟨rfl, rfl⟩ := h5
  exact Go.Proofs.cell_of_shapedOpen_int (zero := #[.int .i64 0]) (t := 3) hsh (of_decide_eq_true (by kernel_rfl)) (by kernel_rfl) rfl (by kernel_rfl) (by kernel_rfl) (by kernel_rfl)
end Go.En
end
section
namespace Go.En
open Go
/-- The parts of a text between the places of another one. -/
def splitL (s sep : ByteArray) : List ByteArray := Go.Lib.splitB sep 0 (Go.Lib.countB s sep) s
/-- What strconv.Atoi gives: the number, and whether there is no error. -/
def atoiK (s : ByteArray) (K : Int → Bool → Prop) : Prop :=
  match Go.Lib.atoiAll s.data.toList with
  | .ok v => K v true
  | .range => K (Go.Lib.atoiSat s.data.toList) false
  | Go.Lib.NumEnd.syntax => K 0 false
end Go.En
end
section
namespace Go.Fl
def P_slices_Clone___string_string_ (s_p : (List ByteArray)) (K : (List ByteArray) → Prop) : Prop :=
  ∀ r1_ : Bool, (r1_ = true → s_p = []) → Cnd (r1_ = true) (K []) (Sml s_p.length ∧ K s_p)
def P_slices_Index___string_string_ (s_p : (List ByteArray)) (v_p : ByteArray) (K : Int → Prop) : Prop :=
  ∀ (_ : s_p.length ≤ 9223372036854775807), Lp1 (fun (k_2 : Nat) Y1 => Cnd (((k_2 : Nat) : Int) < ((s_p.length : Nat) : Int)) (∀ x1_, s_p[k_2]? = some x1_ → Cnd (v_p = x1_) (K ((k_2 : Nat) : Int)) (Y1 (k_2 + 1))) (K (-1 : Int))) 0
def P_slices_Contains___string_string_ (s_p : (List ByteArray)) (v_p : ByteArray) (K : Bool → Prop) : Prop :=
  Jn1 (fun (r1_ : Int) => K (decide ((0 : Int) ≤ r1_))) (P_slices_Index___string_string_ s_p v_p)
def P_graph_Order (nodes_p : (List ByteArray)) (edges_p : (List (ByteArray × ByteArray))) (K : (List ByteArray) → Int → Prop) : Prop :=
  Sml nodes_p.length ∧ Jn1 (fun (r1_ : (List ByteArray)) => Sml (cpt r1_).length ∧ ∀ (_ : (cpt r1_).length ≤ 9223372036854775807), ∀ (_ : (srt nodes_p).length ≤ 9223372036854775807), Cnd ((((cpt r1_).length : Nat) : Int) = (((srt nodes_p).length : Nat) : Int)) (∀ (_ : edges_p.length ≤ 9223372036854775807), Lp2 (fun (k_3 : Nat) (F_2 : (ByteArray → Option (List ByteArray))) Y2 => Cnd (((k_3 : Nat) : Int) < ((edges_p.length : Nat) : Int)) (∀ x1_, edges_p[k_3]? = some x1_ → Jn1 (fun (r2_ : Bool) => Cnd (r2_ = true) (Jn1 (fun (r3_ : Bool) => Cnd (r3_ = true) (Sml (((F_2 x1_.1).getD []) ++ [x1_.2]).length ∧ Y2 (k_3 + 1) (put F_2 x1_.1 (((F_2 x1_.1).getD []) ++ [x1_.2]))) (K [] (11 : Int))) (P_slices_Contains___string_string_ (srt nodes_p) x1_.2)) (K [] (11 : Int))) (P_slices_Contains___string_string_ (srt nodes_p) x1_.1)) (Lp3 (fun (left_3 : (List ByteArray)) (out_3 : (List ByteArray)) (F_4 : (ByteArray → Option Bool)) Y5 => ∀ (_ : left_3.length ≤ 9223372036854775807), Cnd ((0 : Int) < ((left_3.length : Nat) : Int)) (Jn1 (fun (r_1 : Int) => Cnd (r_1 < (0 : Int)) (K [] (12 : Int)) (∃ j1_ : Nat, r_1 = ((j1_ : Nat) : Int) ∧ ∃ x4_, left_3[j1_]? = some x4_ ∧ Sml (out_3 ++ [x4_]).length ∧ ∃ j2_ : Nat, r_1 = ((j2_ : Nat) : Int) ∧ ∃ x5_, left_3[j2_]? = some x5_ ∧ InI (r_1 + (1 : Int)) ∧ ∃ j3_ : Nat, r_1 = ((j3_ : Nat) : Int) ∧ j3_ < j3_ + 1 ∧ j3_ + 1 ≤ left_3.length ∧ Sml (left_3.take j3_ ++ left_3.drop (j3_ + 1)).length ∧ Y5 (left_3.take j3_ ++ left_3.drop (j3_ + 1)) (out_3 ++ [x4_]) (put F_4 x5_ true))) (fun Y6 => Lp1 (fun (k_5 : Nat) Y7 => Cnd (((k_5 : Nat) : Int) < ((left_3.length : Nat) : Int)) (∀ x2_, left_3[k_5]? = some x2_ → Jn1 (fun (r_2 : Int) => Cnd ((0 : Int) ≤ r_2) (Y7 (k_5 + 1)) (Y6 ((k_5 : Nat) : Int))) (fun Y8 => ∀ (_ : ((F_2 x2_).getD []).length ≤ 9223372036854775807), Lp1 (fun (k_7 : Nat) Y9 => Cnd (((k_7 : Nat) : Int) < ((((F_2 x2_).getD []).length : Nat) : Int)) (∀ x3_, ((F_2 x2_).getD [])[k_7]? = some x3_ → Cnd (((F_4 x3_).getD false) = true) (Y9 (k_7 + 1)) (Y8 ((k_7 : Nat) : Int))) (Y8 (-1 : Int))) 0)) (Y6 (-1 : Int))) 0)) (K out_3 (0 : Int))) (srt nodes_p) [] (fun _ => none))) 0 (fun _ => none)) (K [] (10 : Int))) (P_slices_Clone___string_string_ (srt nodes_p))
end Go.Fl
end
section
open Go Go.RowKit Go.Fl Go.Fl.Lk Go.Fx
namespace Go.En
abbrev T_d_Declared : Type := (List (Decl) → Prop) → Prop
def P_d_Declared  (K : List (Decl) → Prop) : Prop := K [Decl.mk (ByteArray.mk (Array.mk [(100 : UInt8), (101 : UInt8), (118 : UInt8), (105 : UInt8), (99 : UInt8), (101 : UInt8)])) (ByteArray.mk (Array.mk [(99 : UInt8), (111 : UInt8), (114 : UInt8), (101 : UInt8), (115 : UInt8)])) (2 : Int), Decl.mk (ByteArray.mk (Array.mk [(100 : UInt8), (101 : UInt8), (118 : UInt8), (105 : UInt8), (99 : UInt8), (101 : UInt8)])) (ByteArray.mk (Array.mk [(111 : UInt8), (115 : UInt8)])) (3 : Int), Decl.mk (ByteArray.mk (Array.mk [(117 : UInt8), (115 : UInt8), (101 : UInt8), (114 : UInt8)])) (ByteArray.mk (Array.mk [(97 : UInt8), (103 : UInt8), (101 : UInt8)])) (2 : Int), Decl.mk (ByteArray.mk (Array.mk [(117 : UInt8), (115 : UInt8), (101 : UInt8), (114 : UInt8)])) (ByteArray.mk (Array.mk [(97 : UInt8), (112 : UInt8), (112 : UInt8)])) (4 : Int), Decl.mk (ByteArray.mk (Array.mk [(117 : UInt8), (115 : UInt8), (101 : UInt8), (114 : UInt8)])) (ByteArray.mk (Array.mk [(98 : UInt8), (101 : UInt8), (116 : UInt8), (97 : UInt8)])) (1 : Int), Decl.mk (ByteArray.mk (Array.mk [(117 : UInt8), (115 : UInt8), (101 : UInt8), (114 : UInt8)])) (ByteArray.mk (Array.mk [(99 : UInt8), (111 : UInt8), (117 : UInt8), (110 : UInt8), (116 : UInt8), (114 : UInt8), (121 : UInt8)])) (3 : Int), Decl.mk (ByteArray.mk (Array.mk [(117 : UInt8), (115 : UInt8), (101 : UInt8), (114 : UInt8)])) (ByteArray.mk (Array.mk [(112 : UInt8), (108 : UInt8), (97 : UInt8), (110 : UInt8)])) (3 : Int), Decl.mk (ByteArray.mk (Array.mk [(117 : UInt8), (115 : UInt8), (101 : UInt8), (114 : UInt8)])) (ByteArray.mk (Array.mk [(116 : UInt8), (97 : UInt8), (103 : UInt8), (115 : UInt8)])) (5 : Int)]
abbrev T_d_Left : Type := List (Int) → Int → (Bool → Int → Prop) → Prop
def P_d_Left (list : List (Int)) (at_ : Int) (K : Bool → Int → Prop) : Prop := list.length ≤ (9223372036854775807 : Nat) → K (decide (at_ < (↑list.length : Int))) at_
abbrev T_d_Next : Type := List (Int) → Int → Int → (Int → Int → Prop) → Prop
def S_d_Next (X_d_Left : T_d_Left) (list : List (Int)) (at_ : Int) (n : Int) (K : Int → Int → Prop) : Prop := X_d_Left list at_ fun x0_0 x0_1 => Cnd (x0_0 = true) (InI (x0_1 + (1 : Int)) ∧ InI (x0_1 + (1 : Int) - (1 : Int)) ∧ ((0 : Int) ≤ x0_1 + (1 : Int) - (1 : Int) ∧ x0_1 + (1 : Int) - (1 : Int) < (↑list.length : Int)) ∧ ∀ y1, list[(x0_1 + (1 : Int) - (1 : Int)).toNat]? = some y1 → InI y1 ∧ n ≠ (0 : Int) ∧ K (y1.tmod n) (x0_1 + (1 : Int))) (K (0 : Int) x0_1)
def P_d_Next (list : List (Int)) (at_ : Int) (n : Int) (K : Int → Int → Prop) : Prop := S_d_Next P_d_Left list at_ n K
abbrev T_d_Text : Type := List (Int) → Int → (ByteArray → Int → Prop) → Prop
def S_d_Text (X_d_Next : T_d_Next) (list : List (Int)) (at_ : Int) (K : ByteArray → Int → Prop) : Prop := X_d_Next list at_ (11 : Int) fun x0_0 x0_1 => ((0 : Int) ≤ x0_0 ∧ x0_0 < (↑(11 : Nat) : Int)) ∧ ∀ y1, tTexts[x0_0.toNat]? = some y1 → K y1 x0_1
def P_d_Text (list : List (Int)) (at_ : Int) (K : ByteArray → Int → Prop) : Prop := S_d_Text P_d_Next list at_ K
abbrev T_d_Key : Type := List (Int) → Int → (ByteArray → Int → Prop) → Prop
def S_d_Key (X_d_Next : T_d_Next) (list : List (Int)) (at_ : Int) (K : ByteArray → Int → Prop) : Prop := X_d_Next list at_ (10 : Int) fun x0_0 x0_1 => InI ((48 : Int) + x0_0) ∧ (↑((ByteArray.mk (Array.mk [(107 : UInt8)])).size + (Go.Utf8.encode (Go.IntKind.i32.wrap ((48 : Int) + x0_0))).size) : Int) ≤ (9223372036854775807 : Int) ∧ K (ByteArray.mk (Array.mk [(107 : UInt8)]) ++ Go.Utf8.encode (Go.IntKind.i32.wrap ((48 : Int) + x0_0))) x0_1
def P_d_Key (list : List (Int)) (at_ : Int) (K : ByteArray → Int → Prop) : Prop := S_d_Key P_d_Next list at_ K
abbrev T_d_Value : Type := List (Int) → Int → Int → (Val → Int → Prop) → Prop
def S_d_Value (X_d_Next : T_d_Next) (X_d_Text : T_d_Text) (list : List (Int)) (at_ : Int) (kind : Int) (K : Val → Int → Prop) : Prop := Cnd (kind = (1 : Int)) (X_d_Next list at_ (2 : Int) fun x0_0 x0_1 => K (Val.mk kind x0_0 (ByteArray.mk (Array.mk [])) []) x0_1) (Cnd (kind = (2 : Int)) ([(0 : Int), (1 : Int), (17 : Int), (18 : Int), (19 : Int), (-5 : Int), (64 : Int), (1099511627776 : Int), (-1099511627776 : Int)].length ≤ (9223372036854775807 : Nat) → X_d_Next list at_ (↑[(0 : Int), (1 : Int), (17 : Int), (18 : Int), (19 : Int), (-5 : Int), (64 : Int), (1099511627776 : Int), (-1099511627776 : Int)].length : Int) fun x1_0 x1_1 => ((0 : Int) ≤ x1_0 ∧ x1_0 < (↑[(0 : Int), (1 : Int), (17 : Int), (18 : Int), (19 : Int), (-5 : Int), (64 : Int), (1099511627776 : Int), (-1099511627776 : Int)].length : Int)) ∧ ∀ y2, [(0 : Int), (1 : Int), (17 : Int), (18 : Int), (19 : Int), (-5 : Int), (64 : Int), (1099511627776 : Int), (-1099511627776 : Int)][x1_0.toNat]? = some y2 → K (Val.mk kind y2 (ByteArray.mk (Array.mk [])) []) x1_1) (Cnd (kind = (3 : Int)) (X_d_Text list at_ fun x0_0 x0_1 => K (Val.mk kind (0 : Int) x0_0 []) x0_1) (Cnd (kind = (4 : Int)) (X_d_Next list at_ (6 : Int) fun x0_0 x0_1 => ((0 : Int) ≤ x0_0 ∧ x0_0 < (↑(6 : Nat) : Int)) ∧ ∀ y1, tVersions[x0_0.toNat]? = some y1 → K (Val.mk kind (0 : Int) y1 []) x0_1) (X_d_Next list at_ (5 : Int) fun x0_0 x0_1 => ((0 : Int) ≤ x0_0 ∧ x0_0 < (↑(5 : Nat) : Int)) ∧ ∀ y1, tLists[x0_0.toNat]? = some y1 → Sml ([] ++ y1).length ∧ K (Val.mk (5 : Int) (0 : Int) (ByteArray.mk (Array.mk [])) ([] ++ y1)) x0_1))))
def P_d_Value (list : List (Int)) (at_ : Int) (kind : Int) (K : Val → Int → Prop) : Prop := S_d_Value P_d_Next P_d_Text list at_ kind K
abbrev T_d_Test : Type := List (Int) → Int → (Ex → Int → Prop) → Prop
def S_d_Test (X_d_Declared : T_d_Declared) (X_d_Next : T_d_Next) (X_d_Key : T_d_Key) (X_d_Value : T_d_Value) (list : List (Int)) (at_ : Int) (K : Ex → Int → Prop) : Prop := X_d_Declared fun x0_0 => x0_0.length ≤ (9223372036854775807 : Nat) → InI ((↑x0_0.length : Int) + (1 : Int)) ∧ X_d_Next list at_ ((↑x0_0.length : Int) + (1 : Int)) fun x2_0 x2_1 => x0_0.length ≤ (9223372036854775807 : Nat) → Cnd (x2_0 = (↑x0_0.length : Int)) (X_d_Key list x2_1 fun x4_0 x4_1 => K (Ex.mk (7 : Int) (ByteArray.mk (Array.mk [(117 : UInt8), (115 : UInt8), (101 : UInt8), (114 : UInt8)])) (ByteArray.mk (Array.mk [(107 : UInt8), (101 : UInt8), (121 : UInt8)])) [Val.mk (3 : Int) (0 : Int) x4_0 []] []) x4_1) (((0 : Int) ≤ x2_0 ∧ x2_0 < (↑x0_0.length : Int)) ∧ ∀ y4, x0_0[x2_0.toNat]? = some y4 → Jn1 (fun (x6_0 : Int × ByteArray × ByteArray × List Val × List Ex × Int × Int × ByteArray × ByteArray × List Val × List Ex × Unit) => X_d_Value list x6_0.snd.snd.snd.snd.snd.fst y4.3 fun x7_0 x7_1 => K (Ex.mk (7 : Int) x6_0.snd.fst x6_0.snd.snd.fst [x7_0] x6_0.snd.snd.snd.snd.fst) x7_1) fun (Y6_0 : Int × ByteArray × ByteArray × List Val × List Ex × Int × Int × ByteArray × ByteArray × List Val × List Ex × Unit → Prop) => X_d_Next list x2_1 (5 : Int) fun x7_0 x7_1 => Jn1 (fun (x8_0 : Int × Int × ByteArray × ByteArray × List Val × List Ex × Int × ByteArray × ByteArray × List Val × List Ex × Unit) => Cnd (y4.3 = (2 : Int)) (X_d_Next list x8_0.fst (4 : Int) fun x9_0 x9_1 => InI ((12 : Int) + x9_0) ∧ X_d_Value list x9_1 y4.3 fun x10_0 x10_1 => K (Ex.mk ((12 : Int) + x9_0) x8_0.snd.snd.fst x8_0.snd.snd.snd.fst [x10_0] x8_0.snd.snd.snd.snd.snd.fst) x10_1) (Cnd (y4.3 = (3 : Int)) (X_d_Next list x8_0.fst (4 : Int) fun x9_0 x9_1 => InI ((12 : Int) + x9_0) ∧ X_d_Value list x9_1 y4.3 fun x10_0 x10_1 => K (Ex.mk ((12 : Int) + x9_0) x8_0.snd.snd.fst x8_0.snd.snd.snd.fst [x10_0] x8_0.snd.snd.snd.snd.snd.fst) x10_1) (Cnd (y4.3 = (4 : Int)) (X_d_Next list x8_0.fst (4 : Int) fun x9_0 x9_1 => InI ((12 : Int) + x9_0) ∧ X_d_Value list x9_1 y4.3 fun x10_0 x10_1 => K (Ex.mk ((12 : Int) + x9_0) x8_0.snd.snd.fst x8_0.snd.snd.snd.fst [x10_0] x8_0.snd.snd.snd.snd.snd.fst) x10_1) (Y6_0 (x8_0.snd.fst, x8_0.snd.snd.fst, x8_0.snd.snd.snd.fst, x8_0.snd.snd.snd.snd.fst, x8_0.snd.snd.snd.snd.snd.fst, x8_0.fst, x8_0.snd.snd.snd.snd.snd.snd.fst, x8_0.snd.snd.snd.snd.snd.snd.snd.fst, x8_0.snd.snd.snd.snd.snd.snd.snd.snd.fst, x8_0.snd.snd.snd.snd.snd.snd.snd.snd.snd.fst, x8_0.snd.snd.snd.snd.snd.snd.snd.snd.snd.snd.fst, ()))))) fun (Y8_0 : Int × Int × ByteArray × ByteArray × List Val × List Ex × Int × ByteArray × ByteArray × List Val × List Ex × Unit → Prop) => Cnd (x7_0 = (0 : Int)) (K (Ex.mk (6 : Int) y4.1 y4.2 [] []) x7_1) (Cnd (x7_0 = (1 : Int)) (Cnd (y4.3 = (5 : Int)) (Y6_0 ((0 : Int), y4.1, y4.2, [], [], x7_1, (0 : Int), ByteArray.mk (Array.mk []), ByteArray.mk (Array.mk []), [], [], ())) (Lp3 (fun x9_0 x9_1 x9_2 Y9_3 => X_d_Next list x9_2 (3 : Int) fun x10_0 x10_1 => Cnd (x9_0 ≤ x10_0) (X_d_Value list x10_1 y4.3 fun x11_0 x11_1 => Sml (x9_1 ++ [x11_0]).length ∧ InI (x9_0 + (1 : Int)) ∧ Y9_3 (x9_0 + (1 : Int)) (x9_1 ++ [x11_0]) x11_1) (K (Ex.mk (8 : Int) y4.1 y4.2 x9_1 []) x10_1)) (0 : Int) [] x7_1)) (Cnd (x7_0 = (2 : Int)) (Cnd (y4.3 = (3 : Int)) (X_d_Value list x7_1 (3 : Int) fun x9_0 x9_1 => K (Ex.mk (11 : Int) y4.1 y4.2 [x9_0] []) x9_1) (Cnd (y4.3 = (5 : Int)) (X_d_Value list x7_1 (3 : Int) fun x9_0 x9_1 => K (Ex.mk (11 : Int) y4.1 y4.2 [x9_0] []) x9_1) (Y6_0 ((0 : Int), y4.1, y4.2, [], [], x7_1, (0 : Int), ByteArray.mk (Array.mk []), ByteArray.mk (Array.mk []), [], [], ())))) (Cnd (x7_0 = (3 : Int)) (Cnd (y4.3 = (3 : Int)) (X_d_Next list x7_1 (2 : Int) fun x9_0 x9_1 => InI ((9 : Int) + x9_0) ∧ X_d_Value list x9_1 (3 : Int) fun x10_0 x10_1 => K (Ex.mk ((9 : Int) + x9_0) y4.1 y4.2 [x10_0] []) x10_1) (Y8_0 (x7_1, (0 : Int), y4.1, y4.2, [], [], (0 : Int), ByteArray.mk (Array.mk []), ByteArray.mk (Array.mk []), [], [], ()))) (Cnd (x7_0 = (4 : Int)) (Y8_0 (x7_1, (0 : Int), y4.1, y4.2, [], [], (0 : Int), ByteArray.mk (Array.mk []), ByteArray.mk (Array.mk []), [], [], ())) (Y6_0 ((0 : Int), y4.1, y4.2, [], [], x7_1, (0 : Int), ByteArray.mk (Array.mk []), ByteArray.mk (Array.mk []), [], [], ())))))))
def P_d_Test (list : List (Int)) (at_ : Int) (K : Ex → Int → Prop) : Prop := S_d_Test P_d_Declared P_d_Next P_d_Key P_d_Value list at_ K
abbrev T_d_Expr : Type := List (Int) → Int → List (ByteArray) → Int → (Ex → Int → Prop) → Prop
def S_d_Expr (X_d_Next : T_d_Next) (X_d_Test : T_d_Test) (X : T_d_Expr) (list : List (Int)) (at_ : Int) (segments : List (ByteArray)) (levels : Int) (K : Ex → Int → Prop) : Prop := X_d_Next list at_ (8 : Int) fun x0_0 x0_1 => Jn1 (fun x1_0 => Cnd (x1_0 = (0 : Int)) (K (Ex.mk (1 : Int) (ByteArray.mk (Array.mk [])) (ByteArray.mk (Array.mk [])) [] []) x0_1) (Cnd (x1_0 = (3 : Int)) (segments.length ≤ (9223372036854775807 : Nat) → Cnd ((0 : Int) < (↑segments.length : Int)) (segments.length ≤ (9223372036854775807 : Nat) → X_d_Next list x0_1 (↑segments.length : Int) fun x4_0 x4_1 => ((0 : Int) ≤ x4_0 ∧ x4_0 < (↑segments.length : Int)) ∧ ∀ y5, segments[x4_0.toNat]? = some y5 → K (Ex.mk (5 : Int) (ByteArray.mk (Array.mk [])) y5 [] []) x4_1) (X_d_Test list x0_1 fun x3_0 x3_1 => K (Ex.mk x3_0.1 x3_0.2 x3_0.3 x3_0.4 x3_0.5) x3_1)) (Cnd (x1_0 = (4 : Int)) (InI (levels - (1 : Int)) ∧ X list x0_1 segments (levels - (1 : Int)) fun x2_0 x2_1 => K (Ex.mk (4 : Int) (ByteArray.mk (Array.mk [])) (ByteArray.mk (Array.mk [])) [] [Ex.mk x2_0.1 x2_0.2 x2_0.3 x2_0.4 x2_0.5]) x2_1) (Jn1 (fun x2_0 => Cnd (x2_0 = true) (X_d_Next list x0_1 (2 : Int) fun x3_0 x3_1 => InI ((2 : Int) + x3_0) ∧ X_d_Next list x3_1 (2 : Int) fun x4_0 x4_1 => InI ((2 : Int) + x4_0) ∧ LpH (fun (x5_0 : Int × Int × Int × ByteArray × ByteArray × List Val × List Ex × Unit) (Y5_1 : Int × Int × Int × ByteArray × ByteArray × List Val × List Ex × Unit → Prop) => Cnd (x5_0.fst < (2 : Int) + x4_0) (InI (levels - (1 : Int)) ∧ X list x5_0.snd.fst segments (levels - (1 : Int)) fun x6_0 x6_1 => Jn1 (fun (x7_0 : Int × ByteArray × ByteArray × List Val × List Ex × Unit) => Sml (x5_0.snd.snd.snd.snd.snd.snd.fst ++ [Ex.mk x7_0.fst x7_0.snd.fst x7_0.snd.snd.fst x7_0.snd.snd.snd.fst x7_0.snd.snd.snd.snd.fst]).length ∧ InI (x5_0.fst + (1 : Int)) ∧ Y5_1 (x5_0.fst + (1 : Int), x6_1, x5_0.snd.snd.fst, x5_0.snd.snd.snd.fst, x5_0.snd.snd.snd.snd.fst, x5_0.snd.snd.snd.snd.snd.fst, x5_0.snd.snd.snd.snd.snd.snd.fst ++ [Ex.mk x7_0.fst x7_0.snd.fst x7_0.snd.snd.fst x7_0.snd.snd.snd.fst x7_0.snd.snd.snd.snd.fst], ())) fun (Y7_0 : Int × ByteArray × ByteArray × List Val × List Ex × Unit → Prop) => Cnd (x6_0.1 = (2 : Int) + x3_0) (Y7_0 ((4 : Int), ByteArray.mk (Array.mk []), ByteArray.mk (Array.mk []), [], [Ex.mk x6_0.1 x6_0.2 x6_0.3 x6_0.4 x6_0.5], ())) (Y7_0 (x6_0.1, x6_0.2, x6_0.3, x6_0.4, x6_0.5, ()))) (K (Ex.mk x5_0.snd.snd.fst x5_0.snd.snd.snd.fst x5_0.snd.snd.snd.snd.fst x5_0.snd.snd.snd.snd.snd.fst x5_0.snd.snd.snd.snd.snd.snd.fst) x5_0.snd.fst)) ((0 : Int), x4_1, (2 : Int) + x3_0, ByteArray.mk (Array.mk []), ByteArray.mk (Array.mk []), [], [], ())) (X_d_Test list x0_1 fun x3_0 x3_1 => K (Ex.mk x3_0.1 x3_0.2 x3_0.3 x3_0.4 x3_0.5) x3_1)) fun Y2_0 => Cnd (x1_0 = (5 : Int)) (Y2_0 (decide (x1_0 = (5 : Int)))) (Y2_0 (decide (x1_0 = (6 : Int)))))))) fun Y1_0 => Cnd (levels ≤ (1 : Int)) (Cnd ((4 : Int) ≤ x0_0) (InI (x0_0 - (4 : Int)) ∧ Y1_0 (x0_0 - (4 : Int))) (Y1_0 x0_0)) (Y1_0 x0_0)
def P_d_Expr (list : List (Int)) (at_ : Int) (segments : List (ByteArray)) (levels : Int) (K : Ex → Int → Prop) : Prop := ∀ X : T_d_Expr, (∀ list at_ segments levels K, S_d_Expr P_d_Next P_d_Test X list at_ segments levels K → X list at_ segments levels K) → X list at_ segments levels K
abbrev T_r6_IsTest : Type := Int → (Bool → Prop) → Prop
def P_r6_IsTest (op : Int) (K : Bool → Prop) : Prop := Cnd ((6 : Int) ≤ op) (K (decide (op ≤ (15 : Int)))) (K false)
abbrev T_r1_Same : Type := List (ByteArray) → List (ByteArray) → (Bool → Prop) → Prop
def P_r1_Same (a : List (ByteArray)) (b : List (ByteArray)) (K : Bool → Prop) : Prop := a.length ≤ (9223372036854775807 : Nat) → b.length ≤ (9223372036854775807 : Nat) → Cnd ((↑a.length : Int) = (↑b.length : Int)) (Lp1 (fun x2_0 Y2_1 => a.length ≤ (9223372036854775807 : Nat) → Cnd (x2_0 < (↑a.length : Int)) (((0 : Int) ≤ x2_0 ∧ x2_0 < (↑a.length : Int)) ∧ ∀ y4, a[x2_0.toNat]? = some y4 → ((0 : Int) ≤ x2_0 ∧ x2_0 < (↑b.length : Int)) ∧ ∀ y6, b[x2_0.toNat]? = some y6 → Cnd (y4 = y6) (InI (x2_0 + (1 : Int)) ∧ Y2_1 (x2_0 + (1 : Int))) (K false)) (K true)) (0 : Int)) (K false)
abbrev T_r3_Equal : Type := Val → Val → (Bool → Prop) → Prop
def S_r3_Equal (X_r1_Same : T_r1_Same) (a : Val) (b : Val) (K : Bool → Prop) : Prop := Cnd (a.1 = b.1) (Cnd (a.2 = b.2) (Cnd (a.3 = b.3) (X_r1_Same a.4 b.4 fun x0_0 => K x0_0) (K false)) (K false)) (K false)
def P_r3_Equal (a : Val) (b : Val) (K : Bool → Prop) : Prop := S_r3_Equal P_r1_Same a b K
abbrev T_r14_Spans : Type := List (Bool) → (List (Spn) → Prop) → Prop
abbrev T_r14_Set : Type := List (Spn) → (List (Bool) → Prop) → Prop
def S_r14_Minus (X_r14_Set : T_r14_Set) (X_r14_Spans : T_r14_Spans) (a : List (Spn)) (b : List (Spn)) (K : List (Spn) → Prop) : Prop := X_r14_Set a fun x0_0 => X_r14_Set b fun x1_0 => Lp2 (fun x2_0 x2_1 Y2_2 => x2_1.length ≤ (9223372036854775807 : Nat) → Cnd (x2_0 < (↑x2_1.length : Int)) (((0 : Int) ≤ x2_0 ∧ x2_0 < (↑x2_1.length : Int)) ∧ ∀ y4, x2_1[x2_0.toNat]? = some y4 → Cnd (y4 = true) (((0 : Int) ≤ x2_0 ∧ x2_0 < (↑x1_0.length : Int)) ∧ ∀ y6, x1_0[x2_0.toNat]? = some y6 → ((0 : Int) ≤ x2_0 ∧ x2_0 < (↑x2_1.length : Int)) ∧ ∀ y8, x2_1[x2_0.toNat]? = some y8 → InI (x2_0 + (1 : Int)) ∧ Y2_2 (x2_0 + (1 : Int)) (x2_1.set x2_0.toNat (match decide (y6 = true) with | true => false | false => true))) (((0 : Int) ≤ x2_0 ∧ x2_0 < (↑x2_1.length : Int)) ∧ ∀ y6, x2_1[x2_0.toNat]? = some y6 → InI (x2_0 + (1 : Int)) ∧ Y2_2 (x2_0 + (1 : Int)) (x2_1.set x2_0.toNat false))) (X_r14_Spans x2_1 fun x4_0 => K x4_0)) (0 : Int) x0_0
abbrev T_utf8_ValidString : Type := ByteArray → (Bool → Prop) → Prop
def P_utf8_ValidString (s : ByteArray) (K : Bool → Prop) : Prop := s.size ≤ (9223372036854775807 : Nat) ∧ K (Go.Lib.validD s.data.toList)
abbrev T_r1_Valid : Type := ByteArray → (Bool → Prop) → Prop
def S_r1_Valid (X_utf8_ValidString : T_utf8_ValidString) (s : ByteArray) (K : Bool → Prop) : Prop := Cnd ((200 : Int) < (↑s.size : Int)) (K false) (X_utf8_ValidString s fun x0_0 => Cnd (x0_0 = true) (Lp1 (fun x1_0 Y1_1 => Cnd (x1_0 < (↑s.size : Int)) (((0 : Int) ≤ x1_0 ∧ x1_0 < (↑s.size : Int)) ∧ ∀ b2, s[x1_0.toNat]? = some b2 → Cnd ((↑b2.toNat : Int) < (32 : Int)) (K false) (((0 : Int) ≤ x1_0 ∧ x1_0 < (↑s.size : Int)) ∧ ∀ b4, s[x1_0.toNat]? = some b4 → Cnd ((↑b4.toNat : Int) = (127 : Int)) (K false) (InI (x1_0 + (1 : Int)) ∧ Y1_1 (x1_0 + (1 : Int))))) (K true)) (0 : Int)) (K false))
def P_r1_Valid (s : ByteArray) (K : Bool → Prop) : Prop := S_r1_Valid P_utf8_ValidString s K
abbrev T_r3_shape : Type := Val → (Bool → Prop) → Prop
def P_r3_shape (v : Val) (K : Bool → Prop) : Prop := Cnd (v.1 = (1 : Int)) (Cnd (v.1 = (3 : Int)) (Cnd (v.1 = (5 : Int)) (K true) (v.4.length ≤ (9223372036854775807 : Nat) → K (decide ((↑v.4.length : Int) = (0 : Int))))) (Cnd (v.1 = (4 : Int)) (Cnd (v.1 = (5 : Int)) (K true) (v.4.length ≤ (9223372036854775807 : Nat) → K (decide ((↑v.4.length : Int) = (0 : Int))))) (Cnd (v.3 = ByteArray.mk (Array.mk [])) (Cnd (v.1 = (5 : Int)) (K true) (v.4.length ≤ (9223372036854775807 : Nat) → K (decide ((↑v.4.length : Int) = (0 : Int))))) (K false)))) (Cnd (v.1 = (3 : Int)) (Cnd (v.1 = (2 : Int)) (Cnd (v.1 = (5 : Int)) (K true) (v.4.length ≤ (9223372036854775807 : Nat) → K (decide ((↑v.4.length : Int) = (0 : Int))))) (Cnd (v.2 = (0 : Int)) (Cnd (v.1 = (5 : Int)) (K true) (v.4.length ≤ (9223372036854775807 : Nat) → K (decide ((↑v.4.length : Int) = (0 : Int))))) (K false))) (Cnd (v.1 = (2 : Int)) (Cnd (v.1 = (4 : Int)) (Cnd (v.1 = (5 : Int)) (K true) (v.4.length ≤ (9223372036854775807 : Nat) → K (decide ((↑v.4.length : Int) = (0 : Int))))) (Cnd (v.3 = ByteArray.mk (Array.mk [])) (Cnd (v.1 = (5 : Int)) (K true) (v.4.length ≤ (9223372036854775807 : Nat) → K (decide ((↑v.4.length : Int) = (0 : Int))))) (K false))) (Cnd (v.2 = (0 : Int)) (Cnd (v.1 = (4 : Int)) (Cnd (v.1 = (5 : Int)) (K true) (v.4.length ≤ (9223372036854775807 : Nat) → K (decide ((↑v.4.length : Int) = (0 : Int))))) (Cnd (v.3 = ByteArray.mk (Array.mk [])) (Cnd (v.1 = (5 : Int)) (K true) (v.4.length ≤ (9223372036854775807 : Nat) → K (decide ((↑v.4.length : Int) = (0 : Int))))) (K false))) (K false))))
abbrev T_r1_ParseNumber : Type := ByteArray → (Int → Int → Prop) → Prop
def P_r1_ParseNumber (s : ByteArray) (K : Int → Int → Prop) : Prop := Jn1 (fun x0_0 => Lp1 (fun x1_0 Y1_1 => Cnd (x1_0 < (↑x0_0.size : Int)) (((0 : Int) ≤ x1_0 ∧ x1_0 < (↑x0_0.size : Int)) ∧ ∀ b2, x0_0[x1_0.toNat]? = some b2 → Cnd ((↑b2.toNat : Int) < (48 : Int)) (K (0 : Int) (1 : Int)) (((0 : Int) ≤ x1_0 ∧ x1_0 < (↑x0_0.size : Int)) ∧ ∀ b4, x0_0[x1_0.toNat]? = some b4 → Cnd ((57 : Int) < (↑b4.toNat : Int)) (K (0 : Int) (1 : Int)) (InI (x1_0 + (1 : Int)) ∧ Y1_1 (x1_0 + (1 : Int))))) (Cnd (x0_0 = ByteArray.mk (Array.mk [])) (K (0 : Int) (1 : Int)) (((0 : Int) ≤ (0 : Int) ∧ (0 : Int) < (↑x0_0.size : Int)) ∧ ∀ b2, x0_0[Int.toNat (0 : Int)]? = some b2 → Cnd ((↑b2.toNat : Int) = (48 : Int)) (Cnd (s = ByteArray.mk (Array.mk [(48 : UInt8)])) (Cnd ((13 : Int) < (↑x0_0.size : Int)) (K (0 : Int) (3 : Int)) (Lp2 (fun x4_0 x4_1 Y4_2 => Cnd (x4_1 < (↑x0_0.size : Int)) (InI ((10 : Int) * x4_0) ∧ ((0 : Int) ≤ x4_1 ∧ x4_1 < (↑x0_0.size : Int)) ∧ ∀ b5, x0_0[x4_1.toNat]? = some b5 → InI (Go.IntKind.u8.wrap ((↑b5.toNat : Int) - (48 : Int))) ∧ InI ((10 : Int) * x4_0 + Go.IntKind.u8.wrap ((↑b5.toNat : Int) - (48 : Int))) ∧ InI (x4_1 + (1 : Int)) ∧ Y4_2 ((10 : Int) * x4_0 + Go.IntKind.u8.wrap ((↑b5.toNat : Int) - (48 : Int))) (x4_1 + (1 : Int))) (Cnd ((1099511627776 : Int) < x4_0) (K (0 : Int) (3 : Int)) (Cnd ((↑x0_0.size : Int) < (↑s.size : Int)) (InI ((0 : Int) - x4_0) ∧ K ((0 : Int) - x4_0) (0 : Int)) (K x4_0 (0 : Int))))) (0 : Int) (0 : Int))) (K (0 : Int) (1 : Int))) (Cnd ((13 : Int) < (↑x0_0.size : Int)) (K (0 : Int) (3 : Int)) (Lp2 (fun x4_0 x4_1 Y4_2 => Cnd (x4_1 < (↑x0_0.size : Int)) (InI ((10 : Int) * x4_0) ∧ ((0 : Int) ≤ x4_1 ∧ x4_1 < (↑x0_0.size : Int)) ∧ ∀ b5, x0_0[x4_1.toNat]? = some b5 → InI (Go.IntKind.u8.wrap ((↑b5.toNat : Int) - (48 : Int))) ∧ InI ((10 : Int) * x4_0 + Go.IntKind.u8.wrap ((↑b5.toNat : Int) - (48 : Int))) ∧ InI (x4_1 + (1 : Int)) ∧ Y4_2 ((10 : Int) * x4_0 + Go.IntKind.u8.wrap ((↑b5.toNat : Int) - (48 : Int))) (x4_1 + (1 : Int))) (Cnd ((1099511627776 : Int) < x4_0) (K (0 : Int) (3 : Int)) (Cnd ((↑x0_0.size : Int) < (↑s.size : Int)) (InI ((0 : Int) - x4_0) ∧ K ((0 : Int) - x4_0) (0 : Int)) (K x4_0 (0 : Int))))) (0 : Int) (0 : Int)))))) (0 : Int)) fun Y0_0 => Cnd ((0 : Int) < (↑s.size : Int)) (((0 : Int) ≤ (0 : Int) ∧ (0 : Int) < (↑s.size : Int)) ∧ ∀ b1, s[Int.toNat (0 : Int)]? = some b1 → Cnd ((↑b1.toNat : Int) = (45 : Int)) (((0 : Int) ≤ (1 : Int) ∧ (1 : Int) ≤ (↑s.size : Int) ∧ (↑s.size : Int) ≤ (↑s.size : Int)) ∧ Y0_0 (s.extract (Int.toNat (1 : Int)) (↑s.size : Int).toNat)) (Y0_0 s)) (Y0_0 s)
abbrev T_r3_parts : Type := ByteArray → (A3 → Bool → Prop) → Prop
def S_r3_parts (X_r1_ParseNumber : T_r1_ParseNumber) (s : ByteArray) (K : A3 → Bool → Prop) : Prop := LpH (fun (x0_0 : Int × Int × Int × Int × Int × Int × Int × Int × Unit) Y0_1 => Cnd (x0_0.snd.fst < (3 : Int)) (Lp1 (fun x1_0 Y1_1 => Cnd (x1_0 < (↑s.size : Int)) (((0 : Int) ≤ x1_0 ∧ x1_0 < (↑s.size : Int)) ∧ ∀ b2, s[x1_0.toNat]? = some b2 → Cnd ((↑b2.toNat : Int) = (46 : Int)) (((0 : Int) ≤ x0_0.fst ∧ x0_0.fst ≤ x1_0 ∧ x1_0 ≤ (↑s.size : Int)) ∧ X_r1_ParseNumber (s.extract x0_0.fst.toNat x1_0.toNat) fun x4_0 x4_1 => Cnd (x4_1 = (0 : Int)) (Cnd (x4_0 < (0 : Int)) (K ((0 : Int), (0 : Int), (0 : Int)) false) (Cnd ((999999 : Int) < x4_0) (K ((0 : Int), (0 : Int), (0 : Int)) false) (Cnd (decide (x0_0.snd.fst < (2 : Int)) = decide (x1_0 < (↑s.size : Int))) (((0 : Int) ≤ x0_0.snd.fst ∧ x0_0.snd.fst < (↑(3 : Nat) : Int)) ∧ ((True ∧ (x0_0.snd.fst = (↑(nat_lit 0) : Int) → InI (x1_0 + (1 : Int)) ∧ InI (x0_0.snd.fst + (1 : Int)) ∧ Y0_1 (x1_0 + (1 : Int), x0_0.snd.fst + (1 : Int), x4_0, x0_0.snd.snd.snd.fst, x0_0.snd.snd.snd.snd.fst, x0_0.snd.snd.snd.snd.snd.fst, x0_0.snd.snd.snd.snd.snd.snd.fst, x0_0.snd.snd.snd.snd.snd.snd.snd.fst, ()))) ∧ (x0_0.snd.fst = (↑(nat_lit 1) : Int) → InI (x1_0 + (1 : Int)) ∧ InI (x0_0.snd.fst + (1 : Int)) ∧ Y0_1 (x1_0 + (1 : Int), x0_0.snd.fst + (1 : Int), x0_0.snd.snd.fst, x4_0, x0_0.snd.snd.snd.snd.fst, x0_0.snd.snd.snd.snd.snd.fst, x0_0.snd.snd.snd.snd.snd.snd.fst, x0_0.snd.snd.snd.snd.snd.snd.snd.fst, ()))) ∧ (x0_0.snd.fst = (↑(nat_lit 2) : Int) → InI (x1_0 + (1 : Int)) ∧ InI (x0_0.snd.fst + (1 : Int)) ∧ Y0_1 (x1_0 + (1 : Int), x0_0.snd.fst + (1 : Int), x0_0.snd.snd.fst, x0_0.snd.snd.snd.fst, x4_0, x0_0.snd.snd.snd.snd.snd.fst, x0_0.snd.snd.snd.snd.snd.snd.fst, x0_0.snd.snd.snd.snd.snd.snd.snd.fst, ()))) (K ((0 : Int), (0 : Int), (0 : Int)) false)))) (K ((0 : Int), (0 : Int), (0 : Int)) false)) (InI (x1_0 + (1 : Int)) ∧ Y1_1 (x1_0 + (1 : Int)))) (((0 : Int) ≤ x0_0.fst ∧ x0_0.fst ≤ x1_0 ∧ x1_0 ≤ (↑s.size : Int)) ∧ X_r1_ParseNumber (s.extract x0_0.fst.toNat x1_0.toNat) fun x2_0 x2_1 => Cnd (x2_1 = (0 : Int)) (Cnd (x2_0 < (0 : Int)) (K ((0 : Int), (0 : Int), (0 : Int)) false) (Cnd ((999999 : Int) < x2_0) (K ((0 : Int), (0 : Int), (0 : Int)) false) (Cnd (decide (x0_0.snd.fst < (2 : Int)) = decide (x1_0 < (↑s.size : Int))) (((0 : Int) ≤ x0_0.snd.fst ∧ x0_0.snd.fst < (↑(3 : Nat) : Int)) ∧ ((True ∧ (x0_0.snd.fst = (↑(nat_lit 0) : Int) → InI (x1_0 + (1 : Int)) ∧ InI (x0_0.snd.fst + (1 : Int)) ∧ Y0_1 (x1_0 + (1 : Int), x0_0.snd.fst + (1 : Int), x2_0, x0_0.snd.snd.snd.fst, x0_0.snd.snd.snd.snd.fst, x0_0.snd.snd.snd.snd.snd.fst, x0_0.snd.snd.snd.snd.snd.snd.fst, x0_0.snd.snd.snd.snd.snd.snd.snd.fst, ()))) ∧ (x0_0.snd.fst = (↑(nat_lit 1) : Int) → InI (x1_0 + (1 : Int)) ∧ InI (x0_0.snd.fst + (1 : Int)) ∧ Y0_1 (x1_0 + (1 : Int), x0_0.snd.fst + (1 : Int), x0_0.snd.snd.fst, x2_0, x0_0.snd.snd.snd.snd.fst, x0_0.snd.snd.snd.snd.snd.fst, x0_0.snd.snd.snd.snd.snd.snd.fst, x0_0.snd.snd.snd.snd.snd.snd.snd.fst, ()))) ∧ (x0_0.snd.fst = (↑(nat_lit 2) : Int) → InI (x1_0 + (1 : Int)) ∧ InI (x0_0.snd.fst + (1 : Int)) ∧ Y0_1 (x1_0 + (1 : Int), x0_0.snd.fst + (1 : Int), x0_0.snd.snd.fst, x0_0.snd.snd.snd.fst, x2_0, x0_0.snd.snd.snd.snd.snd.fst, x0_0.snd.snd.snd.snd.snd.snd.fst, x0_0.snd.snd.snd.snd.snd.snd.snd.fst, ()))) (K ((0 : Int), (0 : Int), (0 : Int)) false)))) (K ((0 : Int), (0 : Int), (0 : Int)) false))) x0_0.fst) (K (x0_0.snd.snd.fst, x0_0.snd.snd.snd.fst, x0_0.snd.snd.snd.snd.fst) true)) ((0 : Int), (0 : Int), (0 : Int), (0 : Int), (0 : Int), (0 : Int), (0 : Int), (0 : Int), ())
def P_r3_parts (s : ByteArray) (K : A3 → Bool → Prop) : Prop := S_r3_parts P_r1_ParseNumber s K
abbrev T_r3_list : Type := List (ByteArray) → (Int → Prop) → Prop
def S_r3_list (X_r1_Valid : T_r1_Valid) (l : List (ByteArray)) (K : Int → Prop) : Prop := l.length ≤ (9223372036854775807 : Nat) → Cnd ((20 : Int) < (↑l.length : Int)) (K (5 : Int)) (Lp1 (fun x1_0 Y1_1 => l.length ≤ (9223372036854775807 : Nat) → Cnd (x1_0 < (↑l.length : Int)) (((0 : Int) ≤ x1_0 ∧ x1_0 < (↑l.length : Int)) ∧ ∀ y3, l[x1_0.toNat]? = some y3 → X_r1_Valid y3 fun x5_0 => Cnd (x5_0 = true) (InI (x1_0 + (1 : Int)) ∧ Y1_1 (x1_0 + (1 : Int))) (K (2 : Int))) (Lp1 (fun x3_0 Y3_1 => l.length ≤ (9223372036854775807 : Nat) → Cnd (x3_0 < (↑l.length : Int)) (((0 : Int) ≤ x3_0 ∧ x3_0 < (↑l.length : Int)) ∧ ∀ y5, l[x3_0.toNat]? = some y5 → InI (x3_0 - (1 : Int)) ∧ ((0 : Int) ≤ x3_0 - (1 : Int) ∧ x3_0 - (1 : Int) < (↑l.length : Int)) ∧ ∀ y7, l[(x3_0 - (1 : Int)).toNat]? = some y7 → Cnd (Lk.blt y7 y5) (InI (x3_0 + (1 : Int)) ∧ Y3_1 (x3_0 + (1 : Int))) (K (9 : Int))) (K (0 : Int))) (1 : Int))) (0 : Int))
def P_r3_list (l : List (ByteArray)) (K : Int → Prop) : Prop := S_r3_list P_r1_Valid l K
abbrev T_r3_Check : Type := Val → (Int → Prop) → Prop
def S_r3_Check (X_r3_shape : T_r3_shape) (X_r1_Valid : T_r1_Valid) (X_r3_parts : T_r3_parts) (X_r3_list : T_r3_list) (v : Val) (K : Int → Prop) : Prop := Cnd (v.1 < (1 : Int)) (K (7 : Int)) (Cnd ((5 : Int) < v.1) (K (7 : Int)) (X_r3_shape v fun x0_0 => Cnd (x0_0 = true) (Cnd (v.1 = (1 : Int)) (Cnd (v.2 = (0 : Int)) (K (0 : Int)) (Cnd (v.2 = (1 : Int)) (K (0 : Int)) (K (3 : Int)))) (Cnd (v.1 = (2 : Int)) (Cnd (v.2 < (-1099511627776 : Int)) (K (3 : Int)) (Cnd ((1099511627776 : Int) < v.2) (K (3 : Int)) (K (0 : Int)))) (Cnd (v.1 = (3 : Int)) (X_r1_Valid v.3 fun x1_0 => Cnd (x1_0 = true) (K (0 : Int)) (K (2 : Int))) (Cnd (v.1 = (4 : Int)) (X_r3_parts v.3 fun (_ : Int × Int × Int) x1_1 => Cnd (x1_1 = true) (K (0 : Int)) (K (1 : Int))) (Cnd (v.1 = (5 : Int)) (X_r3_list v.4 fun x1_0 => K x1_0) (K (0 : Int))))))) (K (15 : Int))))
def P_r3_Check (v : Val) (K : Int → Prop) : Prop := S_r3_Check P_r3_shape P_r1_Valid P_r3_parts P_r3_list v K
abbrev T_r11_Keys : Type := List (Seg) → (List (ByteArray) → Prop) → Prop
def P_r11_Keys (l : List (Seg)) (K : List (ByteArray) → Prop) : Prop := Lp2 (fun x0_0 x0_1 Y0_2 => l.length ≤ (9223372036854775807 : Nat) → Cnd (x0_1 < (↑l.length : Int)) (((0 : Int) ≤ x0_1 ∧ x0_1 < (↑l.length : Int)) ∧ ∀ y2, l[x0_1.toNat]? = some y2 → Sml (x0_0 ++ [y2.1]).length ∧ InI (x0_1 + (1 : Int)) ∧ Y0_2 (x0_0 ++ [y2.1]) (x0_1 + (1 : Int))) (K x0_0)) [] (0 : Int)
abbrev T_r1_Has : Type := List (ByteArray) → ByteArray → (Bool → Prop) → Prop
def P_r1_Has (l : List (ByteArray)) (s : ByteArray) (K : Bool → Prop) : Prop := Lp1 (fun x0_0 Y0_1 => l.length ≤ (9223372036854775807 : Nat) → Cnd (x0_0 < (↑l.length : Int)) (((0 : Int) ≤ x0_0 ∧ x0_0 < (↑l.length : Int)) ∧ ∀ y2, l[x0_0.toNat]? = some y2 → Cnd (y2 = s) (K true) (InI (x0_0 + (1 : Int)) ∧ Y0_1 (x0_0 + (1 : Int)))) (K false)) (0 : Int)
abbrev T_r1_Add : Type := List (ByteArray) → ByteArray → (List (ByteArray) → Prop) → Prop
def P_r1_Add (l : List (ByteArray)) (s : ByteArray) (K : List (ByteArray) → Prop) : Prop := Lp1 (fun x0_0 Y0_1 => l.length ≤ (9223372036854775807 : Nat) → Cnd (x0_0 < (↑l.length : Int)) (((0 : Int) ≤ x0_0 ∧ x0_0 < (↑l.length : Int)) ∧ ∀ y2, l[x0_0.toNat]? = some y2 → Cnd (Lk.blt y2 s) (InI (x0_0 + (1 : Int)) ∧ Y0_1 (x0_0 + (1 : Int))) (l.length ≤ (9223372036854775807 : Nat) → Cnd (x0_0 < (↑l.length : Int)) (((0 : Int) ≤ x0_0 ∧ x0_0 < (↑l.length : Int)) ∧ ∀ y5, l[x0_0.toNat]? = some y5 → Cnd (y5 = s) (K l) (((0 : Int) ≤ (0 : Int) ∧ (0 : Int) ≤ x0_0 ∧ x0_0 ≤ (↑l.length : Int)) ∧ Sml ([] ++ List.drop (Int.toNat (0 : Int)) (List.take x0_0.toNat l)).length ∧ ((0 : Int) ≤ x0_0 ∧ x0_0 ≤ (↑l.length : Int) ∧ (↑l.length : Int) ≤ (↑l.length : Int)) ∧ Sml ([] ++ List.drop (Int.toNat (0 : Int)) (List.take x0_0.toNat l) ++ [s]).length ∧ Sml ([] ++ List.drop (Int.toNat (0 : Int)) (List.take x0_0.toNat l) ++ [s] ++ List.drop x0_0.toNat (List.take (↑l.length : Int).toNat l)).length ∧ K ([] ++ List.drop (Int.toNat (0 : Int)) (List.take x0_0.toNat l) ++ [s] ++ List.drop x0_0.toNat (List.take (↑l.length : Int).toNat l)))) (((0 : Int) ≤ (0 : Int) ∧ (0 : Int) ≤ x0_0 ∧ x0_0 ≤ (↑l.length : Int)) ∧ Sml ([] ++ List.drop (Int.toNat (0 : Int)) (List.take x0_0.toNat l)).length ∧ ((0 : Int) ≤ x0_0 ∧ x0_0 ≤ (↑l.length : Int) ∧ (↑l.length : Int) ≤ (↑l.length : Int)) ∧ Sml ([] ++ List.drop (Int.toNat (0 : Int)) (List.take x0_0.toNat l) ++ [s]).length ∧ Sml ([] ++ List.drop (Int.toNat (0 : Int)) (List.take x0_0.toNat l) ++ [s] ++ List.drop x0_0.toNat (List.take (↑l.length : Int).toNat l)).length ∧ K ([] ++ List.drop (Int.toNat (0 : Int)) (List.take x0_0.toNat l) ++ [s] ++ List.drop x0_0.toNat (List.take (↑l.length : Int).toNat l))))) (l.length ≤ (9223372036854775807 : Nat) → Cnd (x0_0 < (↑l.length : Int)) (((0 : Int) ≤ x0_0 ∧ x0_0 < (↑l.length : Int)) ∧ ∀ y3, l[x0_0.toNat]? = some y3 → Cnd (y3 = s) (K l) (((0 : Int) ≤ (0 : Int) ∧ (0 : Int) ≤ x0_0 ∧ x0_0 ≤ (↑l.length : Int)) ∧ Sml ([] ++ List.drop (Int.toNat (0 : Int)) (List.take x0_0.toNat l)).length ∧ ((0 : Int) ≤ x0_0 ∧ x0_0 ≤ (↑l.length : Int) ∧ (↑l.length : Int) ≤ (↑l.length : Int)) ∧ Sml ([] ++ List.drop (Int.toNat (0 : Int)) (List.take x0_0.toNat l) ++ [s]).length ∧ Sml ([] ++ List.drop (Int.toNat (0 : Int)) (List.take x0_0.toNat l) ++ [s] ++ List.drop x0_0.toNat (List.take (↑l.length : Int).toNat l)).length ∧ K ([] ++ List.drop (Int.toNat (0 : Int)) (List.take x0_0.toNat l) ++ [s] ++ List.drop x0_0.toNat (List.take (↑l.length : Int).toNat l)))) (((0 : Int) ≤ (0 : Int) ∧ (0 : Int) ≤ x0_0 ∧ x0_0 ≤ (↑l.length : Int)) ∧ Sml ([] ++ List.drop (Int.toNat (0 : Int)) (List.take x0_0.toNat l)).length ∧ ((0 : Int) ≤ x0_0 ∧ x0_0 ≤ (↑l.length : Int) ∧ (↑l.length : Int) ≤ (↑l.length : Int)) ∧ Sml ([] ++ List.drop (Int.toNat (0 : Int)) (List.take x0_0.toNat l) ++ [s]).length ∧ Sml ([] ++ List.drop (Int.toNat (0 : Int)) (List.take x0_0.toNat l) ++ [s] ++ List.drop x0_0.toNat (List.take (↑l.length : Int).toNat l)).length ∧ K ([] ++ List.drop (Int.toNat (0 : Int)) (List.take x0_0.toNat l) ++ [s] ++ List.drop x0_0.toNat (List.take (↑l.length : Int).toNat l))))) (0 : Int)
abbrev T_r11_refers : Type := List (ByteArray) → Ex → (List (ByteArray) → Prop) → Prop
def S_r11_refers (X_r1_Add : T_r1_Add) (X : T_r11_refers) (l : List (ByteArray)) (e : Ex) (K : List (ByteArray) → Prop) : Prop := Jn1 (fun x0_0 => Lp2 (fun x1_0 x1_1 Y1_2 => e.5.length ≤ (9223372036854775807 : Nat) → Cnd (x1_1 < (↑e.5.length : Int)) (((0 : Int) ≤ x1_1 ∧ x1_1 < (↑e.5.length : Int)) ∧ ∀ y3, e.5[x1_1.toNat]? = some y3 → X x1_0 (Ex.mk y3.1 y3.2 y3.3 y3.4 y3.5) fun x5_0 => InI (x1_1 + (1 : Int)) ∧ Y1_2 x5_0 (x1_1 + (1 : Int))) (K x1_0)) x0_0 (0 : Int)) fun Y0_0 => Cnd (e.1 = (5 : Int)) (X_r1_Add l e.3 fun x1_0 => Y0_0 x1_0) (Y0_0 l)
def P_r11_refers (l : List (ByteArray)) (e : Ex) (K : List (ByteArray) → Prop) : Prop := ∀ X : T_r11_refers, (∀ l e K, S_r11_refers P_r1_Add X l e K → X l e K) → X l e K
abbrev T_r11_Refers : Type := Ex → (List (ByteArray) → Prop) → Prop
def S_r11_Refers (X_r11_refers : T_r11_refers) (e : Ex) (K : List (ByteArray) → Prop) : Prop := X_r11_refers [] (Ex.mk e.1 e.2 e.3 e.4 e.5) fun x0_0 => K x0_0
def P_r11_Refers (e : Ex) (K : List (ByteArray) → Prop) : Prop := S_r11_Refers P_r11_refers e K
abbrev T_r11_Edges : Type := List (Seg) → (List (Edg) → Prop) → Prop
def S_r11_Edges (X_r11_Refers : T_r11_Refers) (l : List (Seg)) (K : List (Edg) → Prop) : Prop := Lp2 (fun x0_0 x0_1 Y0_2 => l.length ≤ (9223372036854775807 : Nat) → Cnd (x0_1 < (↑l.length : Int)) (((0 : Int) ≤ x0_1 ∧ x0_1 < (↑l.length : Int)) ∧ ∀ y2, l[x0_1.toNat]? = some y2 → X_r11_Refers (Ex.mk y2.5.1 y2.5.2 y2.5.3 y2.5.4 y2.5.5) fun x4_0 => Lp2 (fun x5_0 x5_1 Y5_2 => x4_0.length ≤ (9223372036854775807 : Nat) → Cnd (x5_1 < (↑x4_0.length : Int)) (((0 : Int) ≤ x0_1 ∧ x0_1 < (↑l.length : Int)) ∧ ∀ y7, l[x0_1.toNat]? = some y7 → ((0 : Int) ≤ x5_1 ∧ x5_1 < (↑x4_0.length : Int)) ∧ ∀ y9, x4_0[x5_1.toNat]? = some y9 → Sml (x5_0 ++ [Edg.mk y7.1 y9]).length ∧ InI (x5_1 + (1 : Int)) ∧ Y5_2 (x5_0 ++ [Edg.mk y7.1 y9]) (x5_1 + (1 : Int))) (InI (x0_1 + (1 : Int)) ∧ Y0_2 x5_0 (x0_1 + (1 : Int)))) x0_0 (0 : Int)) (K x0_0)) [] (0 : Int)
def P_r11_Edges (l : List (Seg)) (K : List (Edg) → Prop) : Prop := S_r11_Edges P_r11_Refers l K
abbrev T_clause_test : Type := Int → (Bool → Prop) → Prop
def P_clause_test (op : Int) (K : Bool → Prop) : Prop := Cnd ((6 : Int) ≤ op) (K (decide (op ≤ (15 : Int)))) (K false)
abbrev T_slices_Equal_string_string_ : Type := List (ByteArray) → List (ByteArray) → (Bool → Prop) → Prop
def P_slices_Equal_string_string_ (s1 : List (ByteArray)) (s2 : List (ByteArray)) (K : Bool → Prop) : Prop := s1.length ≤ (9223372036854775807 : Nat) → s2.length ≤ (9223372036854775807 : Nat) → Cnd ((↑s1.length : Int) = (↑s2.length : Int)) (s1.length ≤ (9223372036854775807 : Nat) → Lp1 (fun x3_0 Y3_1 => Cnd (x3_0 < (↑s1.length : Int)) (((0 : Int) ≤ x3_0 ∧ x3_0 < (↑s1.length : Int)) ∧ ∀ y4, s1[x3_0.toNat]? = some y4 → ((0 : Int) ≤ x3_0 ∧ x3_0 < (↑s2.length : Int)) ∧ ∀ y6, s2[x3_0.toNat]? = some y6 → Cnd (y4 = y6) (InI (x3_0 + (1 : Int)) ∧ Y3_1 (x3_0 + (1 : Int))) (K false)) (K true)) (0 : Int)) (K false)
abbrev T_same_Value : Type := Val → Val → (Bool → Prop) → Prop
def S_same_Value (X_slices_Equal_string_string_ : T_slices_Equal_string_string_) (a : Val) (b : Val) (K : Bool → Prop) : Prop := Cnd (a.1 = b.1) (Cnd (a.2 = b.2) (Cnd (a.3 = b.3) (X_slices_Equal_string_string_ a.4 b.4 fun x0_0 => K x0_0) (K false)) (K false)) (K false)
def P_same_Value (a : Val) (b : Val) (K : Bool → Prop) : Prop := S_same_Value P_slices_Equal_string_string_ a b K
abbrev T_same_Expr : Type := Ex → Ex → (Bool → Prop) → Prop
def S_same_Expr (X_same_Value : T_same_Value) (X : T_same_Expr) (a : Ex) (b : Ex) (K : Bool → Prop) : Prop := Cnd (a.1 = b.1) (Cnd (a.2 = b.2) (Cnd (a.3 = b.3) (a.4.length ≤ (9223372036854775807 : Nat) → b.4.length ≤ (9223372036854775807 : Nat) → Cnd ((↑a.4.length : Int) = (↑b.4.length : Int)) (a.4.length ≤ (9223372036854775807 : Nat) → Lp1 (fun x3_0 Y3_1 => Cnd (x3_0 < (↑a.4.length : Int)) (((0 : Int) ≤ x3_0 ∧ x3_0 < (↑a.4.length : Int)) ∧ ∀ y4, a.4[x3_0.toNat]? = some y4 → ((0 : Int) ≤ x3_0 ∧ x3_0 < (↑b.4.length : Int)) ∧ ∀ y6, b.4[x3_0.toNat]? = some y6 → X_same_Value y4 y6 fun x8_0 => Cnd (x8_0 = true) (InI (x3_0 + (1 : Int)) ∧ Y3_1 (x3_0 + (1 : Int))) (K false)) (a.5.length ≤ (9223372036854775807 : Nat) → b.5.length ≤ (9223372036854775807 : Nat) → Cnd ((↑a.5.length : Int) = (↑b.5.length : Int)) (a.5.length ≤ (9223372036854775807 : Nat) → Lp1 (fun x7_0 Y7_1 => Cnd (x7_0 < (↑a.5.length : Int)) (((0 : Int) ≤ x7_0 ∧ x7_0 < (↑a.5.length : Int)) ∧ ∀ y8, a.5[x7_0.toNat]? = some y8 → ((0 : Int) ≤ x7_0 ∧ x7_0 < (↑b.5.length : Int)) ∧ ∀ y10, b.5[x7_0.toNat]? = some y10 → X (Ex.mk y8.1 y8.2 y8.3 y8.4 y8.5) (Ex.mk y10.1 y10.2 y10.3 y10.4 y10.5) fun x12_0 => Cnd (x12_0 = true) (InI (x7_0 + (1 : Int)) ∧ Y7_1 (x7_0 + (1 : Int))) (K false)) (K true)) (0 : Int)) (K false))) (0 : Int)) (K false)) (K false)) (K false)) (K false)
def P_same_Expr (a : Ex) (b : Ex) (K : Bool → Prop) : Prop := ∀ X : T_same_Expr, (∀ a b K, S_same_Expr P_same_Value X a b K → X a b K) → X a b K
abbrev T_clause_atoms : Type := List (Ex) → Ex → (List (Ex) → Prop) → Prop
def S_clause_atoms (X_clause_test : T_clause_test) (X_same_Expr : T_same_Expr) (X : T_clause_atoms) (l : List (Ex)) (e : Ex) (K : List (Ex) → Prop) : Prop := Jn1 (fun x0_0 => e.5.length ≤ (9223372036854775807 : Nat) → Lp2 (fun x2_0 x2_1 Y2_2 => Cnd (x2_1 < (↑e.5.length : Int)) (((0 : Int) ≤ x2_1 ∧ x2_1 < (↑e.5.length : Int)) ∧ ∀ y3, e.5[x2_1.toNat]? = some y3 → X x2_0 (Ex.mk y3.1 y3.2 y3.3 y3.4 y3.5) fun x5_0 => InI (x2_1 + (1 : Int)) ∧ Y2_2 x5_0 (x2_1 + (1 : Int))) (K x2_0)) x0_0 (0 : Int)) fun Y0_0 => X_clause_test e.1 fun x1_0 => Cnd (x1_0 = true) (l.length ≤ (9223372036854775807 : Nat) → Lp1 (fun x3_0 Y3_1 => Cnd (x3_0 < (↑l.length : Int)) (((0 : Int) ≤ x3_0 ∧ x3_0 < (↑l.length : Int)) ∧ ∀ y4, l[x3_0.toNat]? = some y4 → X_same_Expr (Ex.mk y4.1 y4.2 y4.3 y4.4 y4.5) (Ex.mk e.1 e.2 e.3 e.4 e.5) fun x6_0 => Cnd (x6_0 = true) (Cnd ((0 : Int) ≤ x3_0) (Y0_0 l) (Sml (l ++ [Ex.mk e.1 e.2 e.3 e.4 e.5]).length ∧ Y0_0 (l ++ [Ex.mk e.1 e.2 e.3 e.4 e.5]))) (InI (x3_0 + (1 : Int)) ∧ Y3_1 (x3_0 + (1 : Int)))) (Cnd ((0 : Int) ≤ (-1 : Int)) (Y0_0 l) (Sml (l ++ [Ex.mk e.1 e.2 e.3 e.4 e.5]).length ∧ Y0_0 (l ++ [Ex.mk e.1 e.2 e.3 e.4 e.5])))) (0 : Int)) (Cnd (e.1 = (5 : Int)) (l.length ≤ (9223372036854775807 : Nat) → Lp1 (fun x3_0 Y3_1 => Cnd (x3_0 < (↑l.length : Int)) (((0 : Int) ≤ x3_0 ∧ x3_0 < (↑l.length : Int)) ∧ ∀ y4, l[x3_0.toNat]? = some y4 → X_same_Expr (Ex.mk y4.1 y4.2 y4.3 y4.4 y4.5) (Ex.mk e.1 e.2 e.3 e.4 e.5) fun x6_0 => Cnd (x6_0 = true) (Cnd ((0 : Int) ≤ x3_0) (Y0_0 l) (Sml (l ++ [Ex.mk e.1 e.2 e.3 e.4 e.5]).length ∧ Y0_0 (l ++ [Ex.mk e.1 e.2 e.3 e.4 e.5]))) (InI (x3_0 + (1 : Int)) ∧ Y3_1 (x3_0 + (1 : Int)))) (Cnd ((0 : Int) ≤ (-1 : Int)) (Y0_0 l) (Sml (l ++ [Ex.mk e.1 e.2 e.3 e.4 e.5]).length ∧ Y0_0 (l ++ [Ex.mk e.1 e.2 e.3 e.4 e.5])))) (0 : Int)) (Y0_0 l))
def P_clause_atoms (l : List (Ex)) (e : Ex) (K : List (Ex) → Prop) : Prop := ∀ X : T_clause_atoms, (∀ l e K, S_clause_atoms P_clause_test P_same_Expr X l e K → X l e K) → X l e K
abbrev T_clone_Value : Type := Val → (Val → Prop) → Prop
def P_clone_Value (v : Val) (K : Val → Prop) : Prop := ∀ n0, (n0 = true → v.4 = []) → Cnd (n0 = true) (K (Val.mk v.1 v.2 v.3 [])) (Sml ([] ++ v.4).length ∧ K (Val.mk v.1 v.2 v.3 ([] ++ v.4)))
abbrev T_clone_Expr : Type := Ex → (Ex → Prop) → Prop
def S_clone_Expr (X_clone_Value : T_clone_Value) (X : T_clone_Expr) (e : Ex) (K : Ex → Prop) : Prop := e.4.length ≤ (9223372036854775807 : Nat) → ((0 : Int) ≤ (0 : Int) ∧ (0 : Int) ≤ (↑e.4.length : Int) ∧ Sml (↑e.4.length : Int).toNat) ∧ (e.4.length ≤ (9223372036854775807 : Nat) → Lp2 (fun x2_0 x2_1 Y2_2 => Cnd (x2_1 < (↑e.4.length : Int)) (((0 : Int) ≤ x2_1 ∧ x2_1 < (↑e.4.length : Int)) ∧ ∀ y3, e.4[x2_1.toNat]? = some y3 → X_clone_Value y3 fun x5_0 => Sml (x2_0 ++ [x5_0]).length ∧ InI (x2_1 + (1 : Int)) ∧ Y2_2 (x2_0 ++ [x5_0]) (x2_1 + (1 : Int))) (e.5.length ≤ (9223372036854775807 : Nat) → ((0 : Int) ≤ (0 : Int) ∧ (0 : Int) ≤ (↑e.5.length : Int) ∧ Sml (↑e.5.length : Int).toNat) ∧ (e.5.length ≤ (9223372036854775807 : Nat) → Lp2 (fun x5_0 x5_1 Y5_2 => Cnd (x5_1 < (↑e.5.length : Int)) (((0 : Int) ≤ x5_1 ∧ x5_1 < (↑e.5.length : Int)) ∧ ∀ y6, e.5[x5_1.toNat]? = some y6 → X (Ex.mk y6.1 y6.2 y6.3 y6.4 y6.5) fun x8_0 => Sml (x5_0 ++ [Ex.mk x8_0.1 x8_0.2 x8_0.3 x8_0.4 x8_0.5]).length ∧ InI (x5_1 + (1 : Int)) ∧ Y5_2 (x5_0 ++ [Ex.mk x8_0.1 x8_0.2 x8_0.3 x8_0.4 x8_0.5]) (x5_1 + (1 : Int))) (K (Ex.mk e.1 e.2 e.3 x2_0 x5_0))) (List.replicate (Int.toNat (0 : Int)) (Ex.mk (0 : Int) (ByteArray.mk (Array.mk [])) (ByteArray.mk (Array.mk [])) [] [])) (0 : Int)))) (List.replicate (Int.toNat (0 : Int)) (Val.mk (0 : Int) (0 : Int) (ByteArray.mk (Array.mk [])) [])) (0 : Int))
def P_clone_Expr (e : Ex) (K : Ex → Prop) : Prop := ∀ X : T_clone_Expr, (∀ e K, S_clone_Expr P_clone_Value X e K → X e K) → X e K
abbrev T_clause_Atoms : Type := Ex → (List (Ex) → Prop) → Prop
def S_clause_Atoms (X_clause_atoms : T_clause_atoms) (X_clone_Expr : T_clone_Expr) (e : Ex) (K : List (Ex) → Prop) : Prop := X_clause_atoms [] (Ex.mk e.1 e.2 e.3 e.4 e.5) fun x0_0 => x0_0.length ≤ (9223372036854775807 : Nat) → ((0 : Int) ≤ (0 : Int) ∧ (0 : Int) ≤ (↑x0_0.length : Int) ∧ Sml (↑x0_0.length : Int).toNat) ∧ (x0_0.length ≤ (9223372036854775807 : Nat) → Lp2 (fun x3_0 x3_1 Y3_2 => Cnd (x3_1 < (↑x0_0.length : Int)) (((0 : Int) ≤ x3_1 ∧ x3_1 < (↑x0_0.length : Int)) ∧ ∀ y4, x0_0[x3_1.toNat]? = some y4 → X_clone_Expr (Ex.mk y4.1 y4.2 y4.3 y4.4 y4.5) fun x6_0 => Sml (x3_0 ++ [Ex.mk x6_0.1 x6_0.2 x6_0.3 x6_0.4 x6_0.5]).length ∧ InI (x3_1 + (1 : Int)) ∧ Y3_2 (x3_0 ++ [Ex.mk x6_0.1 x6_0.2 x6_0.3 x6_0.4 x6_0.5]) (x3_1 + (1 : Int))) (K x3_0)) (List.replicate (Int.toNat (0 : Int)) (Ex.mk (0 : Int) (ByteArray.mk (Array.mk [])) (ByteArray.mk (Array.mk [])) [] [])) (0 : Int))
def P_clause_Atoms (e : Ex) (K : List (Ex) → Prop) : Prop := S_clause_Atoms P_clause_atoms P_clone_Expr e K
abbrev T_slices_Sort_string_string_ : Type := List (ByteArray) → (List (ByteArray) → Prop) → Prop
def P_slices_Sort_string_string_ (x : List (ByteArray)) (K : List (ByteArray) → Prop) : Prop := K (srt x)
abbrev T_slices_Compact_string_string_ : Type := List (ByteArray) → (List (ByteArray) → Prop) → Prop
def P_slices_Compact_string_string_ (s : List (ByteArray)) (K : List (ByteArray) → Prop) : Prop := K (cpt s)
abbrev T_segment_Refers : Type := Ex → (List (ByteArray) → Prop) → Prop
def S_segment_Refers (X_clause_Atoms : T_clause_Atoms) (X_slices_Sort_string_string_ : T_slices_Sort_string_string_) (X_slices_Compact_string_string_ : T_slices_Compact_string_string_) (e : Ex) (K : List (ByteArray) → Prop) : Prop := X_clause_Atoms (Ex.mk e.1 e.2 e.3 e.4 e.5) fun x0_0 => x0_0.length ≤ (9223372036854775807 : Nat) → Lp2 (fun x2_0 x2_1 Y2_2 => Cnd (x2_1 < (↑x0_0.length : Int)) (((0 : Int) ≤ x2_1 ∧ x2_1 < (↑x0_0.length : Int)) ∧ ∀ y3, x0_0[x2_1.toNat]? = some y3 → Cnd (y3.1 = (5 : Int)) (Sml (x2_0 ++ [y3.3]).length ∧ InI (x2_1 + (1 : Int)) ∧ Y2_2 (x2_0 ++ [y3.3]) (x2_1 + (1 : Int))) (InI (x2_1 + (1 : Int)) ∧ Y2_2 x2_0 (x2_1 + (1 : Int)))) (X_slices_Sort_string_string_ x2_0 fun x3_0 => X_slices_Compact_string_string_ x3_0 fun x4_0 => K x4_0)) [] (0 : Int)
def P_segment_Refers (e : Ex) (K : List (ByteArray) → Prop) : Prop := S_segment_Refers P_clause_Atoms P_slices_Sort_string_string_ P_slices_Compact_string_string_ e K
abbrev T_graph_Order : Type := List (ByteArray) → List (Edg) → (List (ByteArray) → Int → Prop) → Prop
def P_graph_Order (nodes : List (ByteArray)) (edges : List (Edg)) (K : List (ByteArray) → Int → Prop) : Prop := Go.Fl.P_graph_Order nodes (edges.map fun e => (e.1, e.2)) K
abbrev T_segment_Order : Type := List (Seg) → (List (ByteArray) → Int → Prop) → Prop
def S_segment_Order (X_segment_Refers : T_segment_Refers) (X_graph_Order : T_graph_Order) (l : List (Seg)) (K : List (ByteArray) → Int → Prop) : Prop := l.length ≤ (9223372036854775807 : Nat) → Lp3 (fun x1_0 x1_1 x1_2 Y1_3 => Cnd (x1_2 < (↑l.length : Int)) (((0 : Int) ≤ x1_2 ∧ x1_2 < (↑l.length : Int)) ∧ ∀ y2, l[x1_2.toNat]? = some y2 → Sml (x1_0 ++ [y2.1]).length ∧ X_segment_Refers (Ex.mk y2.5.1 y2.5.2 y2.5.3 y2.5.4 y2.5.5) fun x4_0 => x4_0.length ≤ (9223372036854775807 : Nat) → Lp2 (fun x6_0 x6_1 Y6_2 => Cnd (x6_1 < (↑x4_0.length : Int)) (((0 : Int) ≤ x6_1 ∧ x6_1 < (↑x4_0.length : Int)) ∧ ∀ y7, x4_0[x6_1.toNat]? = some y7 → Sml (x6_0 ++ [Edg.mk y2.1 y7]).length ∧ InI (x6_1 + (1 : Int)) ∧ Y6_2 (x6_0 ++ [Edg.mk y2.1 y7]) (x6_1 + (1 : Int))) (InI (x1_2 + (1 : Int)) ∧ Y1_3 (x1_0 ++ [y2.1]) x6_0 (x1_2 + (1 : Int)))) x1_1 (0 : Int)) (X_graph_Order x1_0 x1_1 fun x2_0 x2_1 => K x2_0 x2_1)) [] [] (0 : Int)
def P_segment_Order (l : List (Seg)) (K : List (ByteArray) → Int → Prop) : Prop := S_segment_Order P_segment_Refers P_graph_Order l K
abbrev T_subject_index : Type := Subj → ByteArray → (Int → Prop) → Prop
def P_subject_index (s : Subj) (kind : ByteArray) (K : Int → Prop) : Prop := s.1.length ≤ (9223372036854775807 : Nat) → Lp1 (fun x1_0 Y1_1 => Cnd (x1_0 < (↑s.1.length : Int)) (((0 : Int) ≤ x1_0 ∧ x1_0 < (↑s.1.length : Int)) ∧ ∀ y2, s.1[x1_0.toNat]? = some y2 → Cnd (y2.1 = kind) (K x1_0) (InI (x1_0 + (1 : Int)) ∧ Y1_1 (x1_0 + (1 : Int)))) (K (-1 : Int))) (0 : Int)
abbrev T_clone_Attribute : Type := Attr → (Attr → Prop) → Prop
def S_clone_Attribute (X_clone_Value : T_clone_Value) (a : Attr) (K : Attr → Prop) : Prop := X_clone_Value (Val.mk a.2.1 a.2.2 a.2.3 a.2.4) fun x0_0 => K (Attr.mk a.1 x0_0)
def P_clone_Attribute (a : Attr) (K : Attr → Prop) : Prop := S_clone_Attribute P_clone_Value a K
abbrev T_clone_Context : Type := Ctxt → (Ctxt → Prop) → Prop
def S_clone_Context (X_clone_Attribute : T_clone_Attribute) (c : Ctxt) (K : Ctxt → Prop) : Prop := c.3.length ≤ (9223372036854775807 : Nat) → ((0 : Int) ≤ (0 : Int) ∧ (0 : Int) ≤ (↑c.3.length : Int) ∧ Sml (↑c.3.length : Int).toNat) ∧ (c.3.length ≤ (9223372036854775807 : Nat) → Lp2 (fun x2_0 x2_1 Y2_2 => Cnd (x2_1 < (↑c.3.length : Int)) (((0 : Int) ≤ x2_1 ∧ x2_1 < (↑c.3.length : Int)) ∧ ∀ y3, c.3[x2_1.toNat]? = some y3 → X_clone_Attribute (Attr.mk y3.1 (Val.mk y3.2.1 y3.2.2 y3.2.3 y3.2.4)) fun x5_0 => Sml (x2_0 ++ [Attr.mk x5_0.1 (Val.mk x5_0.2.1 x5_0.2.2 x5_0.2.3 x5_0.2.4)]).length ∧ InI (x2_1 + (1 : Int)) ∧ Y2_2 (x2_0 ++ [Attr.mk x5_0.1 (Val.mk x5_0.2.1 x5_0.2.2 x5_0.2.3 x5_0.2.4)]) (x2_1 + (1 : Int))) (K (Ctxt.mk c.1 c.2 x2_0))) (List.replicate (Int.toNat (0 : Int)) (Attr.mk (ByteArray.mk (Array.mk [])) (Val.mk (0 : Int) (0 : Int) (ByteArray.mk (Array.mk [])) []))) (0 : Int))
def P_clone_Context (c : Ctxt) (K : Ctxt → Prop) : Prop := S_clone_Context P_clone_Attribute c K
abbrev T_subject_Find : Type := Subj → ByteArray → (Ctxt → Bool → Prop) → Prop
def S_subject_Find (X_subject_index : T_subject_index) (X_clone_Context : T_clone_Context) (s : Subj) (kind : ByteArray) (K : Ctxt → Bool → Prop) : Prop := X_subject_index (Subj.mk s.1) kind fun x0_0 => Cnd (x0_0 < (0 : Int)) (K (Ctxt.mk (ByteArray.mk (Array.mk [])) (ByteArray.mk (Array.mk [])) []) false) (((0 : Int) ≤ x0_0 ∧ x0_0 < (↑s.1.length : Int)) ∧ ∀ y1, s.1[x0_0.toNat]? = some y1 → X_clone_Context y1 fun x3_0 => K x3_0 true)
def P_subject_Find (s : Subj) (kind : ByteArray) (K : Ctxt → Bool → Prop) : Prop := S_subject_Find P_subject_index P_clone_Context s kind K
abbrev T_subject_Lookup : Type := Subj → ByteArray → ByteArray → (Val → Bool → Prop) → Prop
def S_subject_Lookup (X_subject_index : T_subject_index) (X_clone_Value : T_clone_Value) (s : Subj) (kind : ByteArray) (name : ByteArray) (K : Val → Bool → Prop) : Prop := X_subject_index (Subj.mk s.1) kind fun x0_0 => Cnd (x0_0 < (0 : Int)) (K (Val.mk (0 : Int) (0 : Int) (ByteArray.mk (Array.mk [])) []) false) (((0 : Int) ≤ x0_0 ∧ x0_0 < (↑s.1.length : Int)) ∧ ∀ y1, s.1[x0_0.toNat]? = some y1 → Cnd (name = ByteArray.mk (Array.mk [(107 : UInt8), (101 : UInt8), (121 : UInt8)])) (K (Val.mk (3 : Int) (0 : Int) y1.2 []) true) (y1.3.length ≤ (9223372036854775807 : Nat) → Lp5 (fun x4_0 x4_1 x4_2 x4_3 (x4_4 : List ByteArray) Y4_5 => Cnd (x4_0 < (↑y1.3.length : Int)) (((0 : Int) ≤ x4_0 ∧ x4_0 < (↑y1.3.length : Int)) ∧ ∀ y5, y1.3[x4_0.toNat]? = some y5 → Cnd (y5.1 = name) (X_clone_Value (Val.mk y5.2.1 y5.2.2 y5.2.3 y5.2.4) fun x7_0 => K x7_0 true) (InI (x4_0 + (1 : Int)) ∧ Y4_5 (x4_0 + (1 : Int)) x4_1 x4_2 x4_3 x4_4)) (K (Val.mk (0 : Int) (0 : Int) (ByteArray.mk (Array.mk [])) []) false)) (0 : Int) (0 : Int) (0 : Int) (ByteArray.mk (Array.mk [])) []))
def P_subject_Lookup (s : Subj) (kind : ByteArray) (name : ByteArray) (K : Val → Bool → Prop) : Prop := S_subject_Lookup P_subject_index P_clone_Value s kind name K
abbrev T_value_Equal : Type := Val → Val → (Bool → Prop) → Prop
def S_value_Equal (X_slices_Equal_string_string_ : T_slices_Equal_string_string_) (a : Val) (b : Val) (K : Bool → Prop) : Prop := Cnd (a.1 = b.1) (Cnd (a.2 = b.2) (Cnd (a.3 = b.3) (X_slices_Equal_string_string_ a.4 b.4 fun x0_0 => K x0_0) (K false)) (K false)) (K false)
def P_value_Equal (a : Val) (b : Val) (K : Bool → Prop) : Prop := S_value_Equal P_slices_Equal_string_string_ a b K
abbrev T_stringslite_HasPrefix : Type := ByteArray → ByteArray → (Bool → Prop) → Prop
def P_stringslite_HasPrefix (s : ByteArray) (prefix_ : ByteArray) (K : Bool → Prop) : Prop := Cnd ((↑prefix_.size : Int) ≤ (↑s.size : Int)) (((0 : Int) ≤ (0 : Int) ∧ (0 : Int) ≤ (↑prefix_.size : Int) ∧ (↑prefix_.size : Int) ≤ (↑s.size : Int)) ∧ K (decide (s.extract (Int.toNat (0 : Int)) (↑prefix_.size : Int).toNat = prefix_))) (K false)
abbrev T_strings_HasPrefix : Type := ByteArray → ByteArray → (Bool → Prop) → Prop
def S_strings_HasPrefix (X_stringslite_HasPrefix : T_stringslite_HasPrefix) (s : ByteArray) (prefix_ : ByteArray) (K : Bool → Prop) : Prop := X_stringslite_HasPrefix s prefix_ fun x0_0 => K x0_0
def P_strings_HasPrefix (s : ByteArray) (prefix_ : ByteArray) (K : Bool → Prop) : Prop := S_strings_HasPrefix P_stringslite_HasPrefix s prefix_ K
abbrev T_stringslite_HasSuffix : Type := ByteArray → ByteArray → (Bool → Prop) → Prop
def P_stringslite_HasSuffix (s : ByteArray) (suffix : ByteArray) (K : Bool → Prop) : Prop := Cnd ((↑suffix.size : Int) ≤ (↑s.size : Int)) (InI ((↑s.size : Int) - (↑suffix.size : Int)) ∧ ((0 : Int) ≤ (↑s.size : Int) - (↑suffix.size : Int) ∧ (↑s.size : Int) - (↑suffix.size : Int) ≤ (↑s.size : Int) ∧ (↑s.size : Int) ≤ (↑s.size : Int)) ∧ K (decide (s.extract ((↑s.size : Int) - (↑suffix.size : Int)).toNat (↑s.size : Int).toNat = suffix))) (K false)
abbrev T_strings_HasSuffix : Type := ByteArray → ByteArray → (Bool → Prop) → Prop
def S_strings_HasSuffix (X_stringslite_HasSuffix : T_stringslite_HasSuffix) (s : ByteArray) (suffix : ByteArray) (K : Bool → Prop) : Prop := X_stringslite_HasSuffix s suffix fun x0_0 => K x0_0
def P_strings_HasSuffix (s : ByteArray) (suffix : ByteArray) (K : Bool → Prop) : Prop := S_strings_HasSuffix P_stringslite_HasSuffix s suffix K
abbrev T_strings_Contains : Type := ByteArray → ByteArray → (Bool → Prop) → Prop
def P_strings_Contains (s : ByteArray) (substr : ByteArray) (K : Bool → Prop) : Prop := s.size < 4294967281 ∧ K (Go.Lib.contains s.data.toList substr.data.toList)
abbrev T_value_shape : Type := Val → (Bool → Prop) → Prop
def P_value_shape (v : Val) (K : Bool → Prop) : Prop := Jn1 (fun x0_0 => Cnd (x0_0 = true) (Cnd (v.3 = ByteArray.mk (Array.mk [])) (v.4.length ≤ (9223372036854775807 : Nat) → K (decide ((↑v.4.length : Int) = (0 : Int)))) (K false)) (Jn1 (fun x1_0 => Cnd (x1_0 = true) (Cnd (v.2 = (0 : Int)) (v.4.length ≤ (9223372036854775807 : Nat) → K (decide ((↑v.4.length : Int) = (0 : Int)))) (K false)) (Cnd (v.2 = (0 : Int)) (K (decide (v.3 = ByteArray.mk (Array.mk [])))) (K false))) fun Y1_0 => Cnd (v.1 = (3 : Int)) (Y1_0 (decide (v.1 = (3 : Int)))) (Y1_0 (decide (v.1 = (4 : Int)))))) fun Y0_0 => Cnd (v.1 = (1 : Int)) (Y0_0 (decide (v.1 = (1 : Int)))) (Y0_0 (decide (v.1 = (2 : Int))))
abbrev T_text_Valid : Type := ByteArray → (Bool → Prop) → Prop
def S_text_Valid (X_utf8_ValidString : T_utf8_ValidString) (s : ByteArray) (K : Bool → Prop) : Prop := Cnd ((200 : Int) < (↑s.size : Int)) (K false) (X_utf8_ValidString s fun x0_0 => Cnd (x0_0 = true) (Lp1 (fun (x1_0 : ByteArray × Nat) Y1_1 => Cnd (x1_0.snd < x1_0.fst.size) (Cnd ((↑(Go.Utf8.decode x1_0.fst x1_0.snd).fst : Int) < (32 : Int)) (K false) (Cnd ((↑(Go.Utf8.decode x1_0.fst x1_0.snd).fst : Int) = (127 : Int)) (K false) (Y1_1 (x1_0.fst, x1_0.snd + (Go.Utf8.decode x1_0.fst x1_0.snd).snd)))) (K true)) (s, (0 : Nat))) (K false))
def P_text_Valid (s : ByteArray) (K : Bool → Prop) : Prop := S_text_Valid P_utf8_ValidString s K
abbrev T_strings_Split : Type := ByteArray → ByteArray → (List (ByteArray) → Prop) → Prop
def P_strings_Split (s : ByteArray) (sep : ByteArray) (K : List (ByteArray) → Prop) : Prop := sep.size = 1 ∧ s.size < 4294967281 ∧ K (splitL s sep)
abbrev T_stringslite_CutPrefix : Type := ByteArray → ByteArray → (ByteArray → Bool → Prop) → Prop
def S_stringslite_CutPrefix (X_stringslite_HasPrefix : T_stringslite_HasPrefix) (s : ByteArray) (prefix_ : ByteArray) (K : ByteArray → Bool → Prop) : Prop := X_stringslite_HasPrefix s prefix_ fun x0_0 => Cnd (x0_0 = true) (((0 : Int) ≤ (↑prefix_.size : Int) ∧ (↑prefix_.size : Int) ≤ (↑s.size : Int) ∧ (↑s.size : Int) ≤ (↑s.size : Int)) ∧ K (s.extract (↑prefix_.size : Int).toNat (↑s.size : Int).toNat) true) (K s false)
def P_stringslite_CutPrefix (s : ByteArray) (prefix_ : ByteArray) (K : ByteArray → Bool → Prop) : Prop := S_stringslite_CutPrefix P_stringslite_HasPrefix s prefix_ K
abbrev T_strings_CutPrefix : Type := ByteArray → ByteArray → (ByteArray → Bool → Prop) → Prop
def S_strings_CutPrefix (X_stringslite_CutPrefix : T_stringslite_CutPrefix) (s : ByteArray) (prefix_ : ByteArray) (K : ByteArray → Bool → Prop) : Prop := X_stringslite_CutPrefix s prefix_ fun x0_0 x0_1 => K x0_0 x0_1
def P_strings_CutPrefix (s : ByteArray) (prefix_ : ByteArray) (K : ByteArray → Bool → Prop) : Prop := S_strings_CutPrefix P_stringslite_CutPrefix s prefix_ K
abbrev T_strconv_Atoi : Type := ByteArray → (Int → Bool → Prop) → Prop
def P_strconv_Atoi (s : ByteArray) (K : Int → Bool → Prop) : Prop := s.size ≤ 281474976710656 ∧ atoiK s K
abbrev T_text_ParseNumber : Type := ByteArray → (Int → Int → Prop) → Prop
def S_text_ParseNumber (X_strings_CutPrefix : T_strings_CutPrefix) (X_strconv_Atoi : T_strconv_Atoi) (s : ByteArray) (K : Int → Int → Prop) : Prop := X_strings_CutPrefix s (ByteArray.mk (Array.mk [(45 : UInt8)])) fun x0_0 x0_1 => Cnd (x0_0 = ByteArray.mk (Array.mk [])) (K (0 : Int) (1 : Int)) (((0 : Int) ≤ (0 : Int) ∧ (0 : Int) < (↑x0_0.size : Int)) ∧ ∀ b1, x0_0[Int.toNat (0 : Int)]? = some b1 → Cnd ((↑b1.toNat : Int) = (48 : Int)) (Cnd ((1 : Int) < (↑x0_0.size : Int)) (K (0 : Int) (1 : Int)) (Cnd (x0_1 = true) (K (0 : Int) (1 : Int)) (Lp1 (fun (x3_0 : ByteArray × Nat) Y3_1 => Cnd (x3_0.snd < x3_0.fst.size) (Cnd ((↑(Go.Utf8.decode x3_0.fst x3_0.snd).fst : Int) < (48 : Int)) (K (0 : Int) (1 : Int)) (Cnd ((57 : Int) < (↑(Go.Utf8.decode x3_0.fst x3_0.snd).fst : Int)) (K (0 : Int) (1 : Int)) (Y3_1 (x3_0.fst, x3_0.snd + (Go.Utf8.decode x3_0.fst x3_0.snd).snd)))) (X_strconv_Atoi s fun x4_0 x4_1 => Cnd ((match (x4_0, x4_1, ()).snd.fst with | true => false | false => true) = true) (K (0 : Int) (3 : Int)) (Cnd (x4_0 < (-1099511627776 : Int)) (K (0 : Int) (3 : Int)) (Cnd ((1099511627776 : Int) < x4_0) (K (0 : Int) (3 : Int)) (K x4_0 (0 : Int)))))) (x0_0, (0 : Nat))))) (Lp1 (fun (x3_0 : ByteArray × Nat) Y3_1 => Cnd (x3_0.snd < x3_0.fst.size) (Cnd ((↑(Go.Utf8.decode x3_0.fst x3_0.snd).fst : Int) < (48 : Int)) (K (0 : Int) (1 : Int)) (Cnd ((57 : Int) < (↑(Go.Utf8.decode x3_0.fst x3_0.snd).fst : Int)) (K (0 : Int) (1 : Int)) (Y3_1 (x3_0.fst, x3_0.snd + (Go.Utf8.decode x3_0.fst x3_0.snd).snd)))) (X_strconv_Atoi s fun x4_0 x4_1 => Cnd ((match (x4_0, x4_1, ()).snd.fst with | true => false | false => true) = true) (K (0 : Int) (3 : Int)) (Cnd (x4_0 < (-1099511627776 : Int)) (K (0 : Int) (3 : Int)) (Cnd ((1099511627776 : Int) < x4_0) (K (0 : Int) (3 : Int)) (K x4_0 (0 : Int)))))) (x0_0, (0 : Nat))))
def P_text_ParseNumber (s : ByteArray) (K : Int → Int → Prop) : Prop := S_text_ParseNumber P_strings_CutPrefix P_strconv_Atoi s K
abbrev T_value_parts : Type := ByteArray → (A3 → Bool → Prop) → Prop
def S_value_parts (X_strings_Split : T_strings_Split) (X_text_ParseNumber : T_text_ParseNumber) (s : ByteArray) (K : A3 → Bool → Prop) : Prop := X_strings_Split s (ByteArray.mk (Array.mk [(46 : UInt8)])) fun x0_0 => x0_0.length ≤ (9223372036854775807 : Nat) → Cnd ((↑x0_0.length : Int) = (3 : Int)) (x0_0.length ≤ (9223372036854775807 : Nat) → LpH (fun (x3_0 : Int × Int × Int × Int × Int × Int × Int × Unit) Y3_1 => Cnd (x3_0.fst < (↑x0_0.length : Int)) (((0 : Int) ≤ x3_0.fst ∧ x3_0.fst < (↑x0_0.length : Int)) ∧ ∀ y4, x0_0[x3_0.fst.toNat]? = some y4 → X_text_ParseNumber y4 fun x6_0 x6_1 => Cnd (x6_1 = (0 : Int)) (Cnd (x6_0 < (0 : Int)) (K ((0 : Int), (0 : Int), (0 : Int)) false) (Cnd ((999999 : Int) < x6_0) (K ((0 : Int), (0 : Int), (0 : Int)) false) (((0 : Int) ≤ x3_0.fst ∧ x3_0.fst < (↑(3 : Nat) : Int)) ∧ ((True ∧ (x3_0.fst = (↑(nat_lit 0) : Int) → InI (x3_0.fst + (1 : Int)) ∧ Y3_1 (x3_0.fst + (1 : Int), x6_0, x3_0.snd.snd.fst, x3_0.snd.snd.snd.fst, x3_0.snd.snd.snd.snd.fst, x3_0.snd.snd.snd.snd.snd.fst, x3_0.snd.snd.snd.snd.snd.snd.fst, ()))) ∧ (x3_0.fst = (↑(nat_lit 1) : Int) → InI (x3_0.fst + (1 : Int)) ∧ Y3_1 (x3_0.fst + (1 : Int), x3_0.snd.fst, x6_0, x3_0.snd.snd.snd.fst, x3_0.snd.snd.snd.snd.fst, x3_0.snd.snd.snd.snd.snd.fst, x3_0.snd.snd.snd.snd.snd.snd.fst, ()))) ∧ (x3_0.fst = (↑(nat_lit 2) : Int) → InI (x3_0.fst + (1 : Int)) ∧ Y3_1 (x3_0.fst + (1 : Int), x3_0.snd.fst, x3_0.snd.snd.fst, x6_0, x3_0.snd.snd.snd.snd.fst, x3_0.snd.snd.snd.snd.snd.fst, x3_0.snd.snd.snd.snd.snd.snd.fst, ()))))) (K ((0 : Int), (0 : Int), (0 : Int)) false)) (K (x3_0.snd.fst, x3_0.snd.snd.fst, x3_0.snd.snd.snd.fst) true)) ((0 : Int), (0 : Int), (0 : Int), (0 : Int), (0 : Int), (0 : Int), (0 : Int), ())) (K ((0 : Int), (0 : Int), (0 : Int)) false)
def P_value_parts (s : ByteArray) (K : A3 → Bool → Prop) : Prop := S_value_parts P_strings_Split P_text_ParseNumber s K
abbrev T_value_Check : Type := Val → (Int → Prop) → Prop
def S_value_Check (X_value_shape : T_value_shape) (X_text_Valid : T_text_Valid) (X_value_parts : T_value_parts) (v : Val) (K : Int → Prop) : Prop := Cnd (v.1 < (1 : Int)) (K (7 : Int)) (Cnd ((5 : Int) < v.1) (K (7 : Int)) (X_value_shape v fun x0_0 => Cnd (x0_0 = true) (Cnd (v.1 = (1 : Int)) (Cnd (v.2 = (0 : Int)) (K (0 : Int)) (Cnd (v.2 = (1 : Int)) (K (0 : Int)) (K (3 : Int)))) (Cnd (v.1 = (2 : Int)) (Cnd (v.2 < (-1099511627776 : Int)) (K (3 : Int)) (Cnd ((1099511627776 : Int) < v.2) (K (3 : Int)) (K (0 : Int)))) (Cnd (v.1 = (3 : Int)) (X_text_Valid v.3 fun x1_0 => Cnd (x1_0 = true) (K (0 : Int)) (K (2 : Int))) (Cnd (v.1 = (4 : Int)) (X_value_parts v.3 fun (_ : Int × Int × Int) x1_1 => Cnd (x1_1 = true) (K (0 : Int)) (K (1 : Int))) (Cnd (v.1 = (5 : Int)) (v.4.length ≤ (9223372036854775807 : Nat) → Cnd ((20 : Int) < (↑v.4.length : Int)) (K (5 : Int)) (v.4.length ≤ (9223372036854775807 : Nat) → Lp1 (fun x3_0 Y3_1 => Cnd (x3_0 < (↑v.4.length : Int)) (((0 : Int) ≤ x3_0 ∧ x3_0 < (↑v.4.length : Int)) ∧ ∀ y4, v.4[x3_0.toNat]? = some y4 → X_text_Valid y4 fun x6_0 => Cnd (x6_0 = true) (InI (x3_0 + (1 : Int)) ∧ Y3_1 (x3_0 + (1 : Int))) (K (2 : Int))) (v.4.length ≤ (9223372036854775807 : Nat) → Lp1 (fun x5_0 Y5_1 => Cnd (x5_0 < (↑v.4.length : Int)) (Cnd ((0 : Int) < x5_0) (InI (x5_0 - (1 : Int)) ∧ ((0 : Int) ≤ x5_0 - (1 : Int) ∧ x5_0 - (1 : Int) < (↑v.4.length : Int)) ∧ ∀ y6, v.4[(x5_0 - (1 : Int)).toNat]? = some y6 → ((0 : Int) ≤ x5_0 ∧ x5_0 < (↑v.4.length : Int)) ∧ ∀ y8, v.4[x5_0.toNat]? = some y8 → Cnd (Lk.blt y6 y8) (InI (x5_0 + (1 : Int)) ∧ Y5_1 (x5_0 + (1 : Int))) (K (9 : Int))) (InI (x5_0 + (1 : Int)) ∧ Y5_1 (x5_0 + (1 : Int)))) (K (0 : Int))) (0 : Int))) (0 : Int))) (K (0 : Int))))))) (K (15 : Int))))
def P_value_Check (v : Val) (K : Int → Prop) : Prop := S_value_Check P_value_shape P_text_Valid P_value_parts v K
abbrev T_value_Compare : Type := Val → Val → (Int → Int → Prop) → Prop
def S_value_Compare (X_value_Check : T_value_Check) (X_value_parts : T_value_parts) (a : Val) (b : Val) (K : Int → Int → Prop) : Prop := X_value_Check a fun x0_0 => Cnd (x0_0 = (0 : Int)) (X_value_Check b fun x1_0 => Cnd (x1_0 = (0 : Int)) (Cnd (a.1 = b.1) (Cnd (a.1 = (1 : Int)) (K (0 : Int) (8 : Int)) (Cnd (a.1 = (5 : Int)) (K (0 : Int) (8 : Int)) (Cnd (a.1 = (2 : Int)) (Cnd (a.2 = a.2) (Cnd (b.2 = b.2) (Cnd (a.2 < b.2) (K (-1 : Int) (0 : Int)) (Cnd (b.2 < a.2) (K (1 : Int) (0 : Int)) (K (0 : Int) (0 : Int)))) (K (1 : Int) (0 : Int))) (Cnd (b.2 = b.2) (K (-1 : Int) (0 : Int)) (K (0 : Int) (0 : Int)))) (Cnd (a.1 = (3 : Int)) (Cnd (a.3 = a.3) (Cnd (b.3 = b.3) (Cnd (Lk.blt a.3 b.3) (K (-1 : Int) (0 : Int)) (Cnd (Lk.blt b.3 a.3) (K (1 : Int) (0 : Int)) (K (0 : Int) (0 : Int)))) (K (1 : Int) (0 : Int))) (Cnd (b.3 = b.3) (K (-1 : Int) (0 : Int)) (K (0 : Int) (0 : Int)))) (X_value_parts a.3 fun (x2_0 : Int × Int × Int) _ => X_value_parts b.3 fun (x3_0 : Int × Int × Int) _ => ([x2_0.fst, x2_0.snd.fst, x2_0.snd.snd].length ≤ (9223372036854775807 : Nat) → Lp1 (fun x5_0 Y5_1 => Cnd (x5_0 < (↑[x2_0.fst, x2_0.snd.fst, x2_0.snd.snd].length : Int)) (((0 : Int) ≤ x5_0 ∧ x5_0 < (↑[x2_0.fst, x2_0.snd.fst, x2_0.snd.snd].length : Int)) ∧ ∀ y6, [x2_0.fst, x2_0.snd.fst, x2_0.snd.snd][x5_0.toNat]? = some y6 → [x3_0.fst, x3_0.snd.fst, x3_0.snd.snd].length ≤ (9223372036854775807 : Nat) → Cnd ((↑[x3_0.fst, x3_0.snd.fst, x3_0.snd.snd].length : Int) ≤ x5_0) (K (1 : Int) (0 : Int)) (((0 : Int) ≤ x5_0 ∧ x5_0 < (↑[x3_0.fst, x3_0.snd.fst, x3_0.snd.snd].length : Int)) ∧ ∀ y9, [x3_0.fst, x3_0.snd.fst, x3_0.snd.snd][x5_0.toNat]? = some y9 → Cnd (y6 = y6) (Cnd (y9 = y9) (Cnd (y6 < y9) (Cnd ((-1 : Int) = (0 : Int)) (InI (x5_0 + (1 : Int)) ∧ Y5_1 (x5_0 + (1 : Int))) (K (-1 : Int) (0 : Int))) (Cnd (y9 < y6) (Cnd ((1 : Int) = (0 : Int)) (InI (x5_0 + (1 : Int)) ∧ Y5_1 (x5_0 + (1 : Int))) (K (1 : Int) (0 : Int))) (Cnd ((0 : Int) = (0 : Int)) (InI (x5_0 + (1 : Int)) ∧ Y5_1 (x5_0 + (1 : Int))) (K (0 : Int) (0 : Int))))) (Cnd ((1 : Int) = (0 : Int)) (InI (x5_0 + (1 : Int)) ∧ Y5_1 (x5_0 + (1 : Int))) (K (1 : Int) (0 : Int)))) (Cnd (y9 = y9) (Cnd ((-1 : Int) = (0 : Int)) (InI (x5_0 + (1 : Int)) ∧ Y5_1 (x5_0 + (1 : Int))) (K (-1 : Int) (0 : Int))) (Cnd ((0 : Int) = (0 : Int)) (InI (x5_0 + (1 : Int)) ∧ Y5_1 (x5_0 + (1 : Int))) (K (0 : Int) (0 : Int)))))) ([x2_0.fst, x2_0.snd.fst, x2_0.snd.snd].length ≤ (9223372036854775807 : Nat) → [x3_0.fst, x3_0.snd.fst, x3_0.snd.snd].length ≤ (9223372036854775807 : Nat) → Cnd ((↑[x2_0.fst, x2_0.snd.fst, x2_0.snd.snd].length : Int) < (↑[x3_0.fst, x3_0.snd.fst, x3_0.snd.snd].length : Int)) (K (-1 : Int) (0 : Int)) (K (0 : Int) (0 : Int)))) (0 : Int)) ∧ ([x2_0.fst, x2_0.snd.fst, x2_0.snd.snd].length ≤ (9223372036854775807 : Nat) → Lp1 (fun x5_0 Y5_1 => Cnd (x5_0 < (↑[x2_0.fst, x2_0.snd.fst, x2_0.snd.snd].length : Int)) (((0 : Int) ≤ x5_0 ∧ x5_0 < (↑[x2_0.fst, x2_0.snd.fst, x2_0.snd.snd].length : Int)) ∧ ∀ y6, [x2_0.fst, x2_0.snd.fst, x2_0.snd.snd][x5_0.toNat]? = some y6 → [x3_0.fst, x3_0.snd.fst, x3_0.snd.snd].length ≤ (9223372036854775807 : Nat) → Cnd ((↑[x3_0.fst, x3_0.snd.fst, x3_0.snd.snd].length : Int) ≤ x5_0) (K (1 : Int) (0 : Int)) (((0 : Int) ≤ x5_0 ∧ x5_0 < (↑[x3_0.fst, x3_0.snd.fst, x3_0.snd.snd].length : Int)) ∧ ∀ y9, [x3_0.fst, x3_0.snd.fst, x3_0.snd.snd][x5_0.toNat]? = some y9 → Cnd (y6 = y6) (Cnd (y9 = y9) (Cnd (y6 < y9) (Cnd ((-1 : Int) = (0 : Int)) (InI (x5_0 + (1 : Int)) ∧ Y5_1 (x5_0 + (1 : Int))) (K (-1 : Int) (0 : Int))) (Cnd (y9 < y6) (Cnd ((1 : Int) = (0 : Int)) (InI (x5_0 + (1 : Int)) ∧ Y5_1 (x5_0 + (1 : Int))) (K (1 : Int) (0 : Int))) (Cnd ((0 : Int) = (0 : Int)) (InI (x5_0 + (1 : Int)) ∧ Y5_1 (x5_0 + (1 : Int))) (K (0 : Int) (0 : Int))))) (Cnd ((1 : Int) = (0 : Int)) (InI (x5_0 + (1 : Int)) ∧ Y5_1 (x5_0 + (1 : Int))) (K (1 : Int) (0 : Int)))) (Cnd (y9 = y9) (Cnd ((-1 : Int) = (0 : Int)) (InI (x5_0 + (1 : Int)) ∧ Y5_1 (x5_0 + (1 : Int))) (K (-1 : Int) (0 : Int))) (Cnd ((0 : Int) = (0 : Int)) (InI (x5_0 + (1 : Int)) ∧ Y5_1 (x5_0 + (1 : Int))) (K (0 : Int) (0 : Int)))))) ([x2_0.fst, x2_0.snd.fst, x2_0.snd.snd].length ≤ (9223372036854775807 : Nat) → [x3_0.fst, x3_0.snd.fst, x3_0.snd.snd].length ≤ (9223372036854775807 : Nat) → Cnd ((↑[x2_0.fst, x2_0.snd.fst, x2_0.snd.snd].length : Int) < (↑[x3_0.fst, x3_0.snd.fst, x3_0.snd.snd].length : Int)) (K (-1 : Int) (0 : Int)) (K (0 : Int) (0 : Int)))) (0 : Int))))))) (K (0 : Int) (8 : Int))) (K (0 : Int) x1_0)) (K (0 : Int) x0_0)
def P_value_Compare (a : Val) (b : Val) (K : Int → Int → Prop) : Prop := S_value_Compare P_value_Check P_value_parts a b K
abbrev T_clause_Test : Type := Subj → Ex → (Bool → Prop) → Prop
def S_clause_Test (X_subject_Lookup : T_subject_Lookup) (X_clause_test : T_clause_test) (X_value_Equal : T_value_Equal) (X_strings_HasPrefix : T_strings_HasPrefix) (X_strings_HasSuffix : T_strings_HasSuffix) (X_strings_Contains : T_strings_Contains) (X_value_Compare : T_value_Compare) (s : Subj) (e : Ex) (K : Bool → Prop) : Prop := X_subject_Lookup (Subj.mk s.1) e.2 e.3 fun x0_0 x0_1 => Cnd (x0_1 = true) (X_clause_test e.1 fun x1_0 => Cnd (x1_0 = true) (Cnd (e.1 = (6 : Int)) (K true) (Cnd (e.1 = (8 : Int)) (e.4.length ≤ (9223372036854775807 : Nat) → Lp1 (fun x3_0 Y3_1 => Cnd (x3_0 < (↑e.4.length : Int)) (((0 : Int) ≤ x3_0 ∧ x3_0 < (↑e.4.length : Int)) ∧ ∀ y4, e.4[x3_0.toNat]? = some y4 → X_value_Equal x0_0 y4 fun x6_0 => Cnd (x6_0 = true) (K (decide ((0 : Int) ≤ x3_0))) (InI (x3_0 + (1 : Int)) ∧ Y3_1 (x3_0 + (1 : Int)))) (K (decide ((0 : Int) ≤ (-1 : Int))))) (0 : Int)) (e.4.length ≤ (9223372036854775807 : Nat) → Cnd ((↑e.4.length : Int) = (0 : Int)) (K false) (((0 : Int) ≤ (0 : Int) ∧ (0 : Int) < (↑e.4.length : Int)) ∧ ∀ y3, e.4[Int.toNat (0 : Int)]? = some y3 → Cnd (x0_0.1 = (3 : Int)) (Cnd (e.1 = (7 : Int)) (X_value_Equal x0_0 y3 fun x5_0 => K x5_0) (Cnd (e.1 = (9 : Int)) (Cnd (y3.1 = (3 : Int)) (X_strings_HasPrefix x0_0.3 y3.3 fun x5_0 => K x5_0) (K false)) (Cnd (e.1 = (10 : Int)) (Cnd (y3.1 = (3 : Int)) (X_strings_HasSuffix x0_0.3 y3.3 fun x5_0 => K x5_0) (K false)) (Cnd (e.1 = (11 : Int)) (Cnd (y3.1 = (3 : Int)) (X_strings_Contains x0_0.3 y3.3 fun x5_0 => Cnd (x5_0 = true) (K true) (Cnd (y3.1 = (3 : Int)) (Cnd (x0_0.1 = (5 : Int)) (x0_0.4.length ≤ (9223372036854775807 : Nat) → Lp1 (fun x7_0 Y7_1 => Cnd (x7_0 < (↑x0_0.4.length : Int)) (((0 : Int) ≤ x7_0 ∧ x7_0 < (↑x0_0.4.length : Int)) ∧ ∀ y8, x0_0.4[x7_0.toNat]? = some y8 → Cnd (y3.3 = y8) (K (decide ((0 : Int) ≤ x7_0))) (InI (x7_0 + (1 : Int)) ∧ Y7_1 (x7_0 + (1 : Int)))) (K (decide ((0 : Int) ≤ (-1 : Int))))) (0 : Int)) (K false)) (K false))) (Cnd (y3.1 = (3 : Int)) (Cnd (x0_0.1 = (5 : Int)) (x0_0.4.length ≤ (9223372036854775807 : Nat) → Lp1 (fun x6_0 Y6_1 => Cnd (x6_0 < (↑x0_0.4.length : Int)) (((0 : Int) ≤ x6_0 ∧ x6_0 < (↑x0_0.4.length : Int)) ∧ ∀ y7, x0_0.4[x6_0.toNat]? = some y7 → Cnd (y3.3 = y7) (K (decide ((0 : Int) ≤ x6_0))) (InI (x6_0 + (1 : Int)) ∧ Y6_1 (x6_0 + (1 : Int)))) (K (decide ((0 : Int) ≤ (-1 : Int))))) (0 : Int)) (K false)) (K false))) (X_value_Compare x0_0 y3 fun x5_0 x5_1 => Cnd (x5_1 = (0 : Int)) (Cnd (e.1 = (12 : Int)) (K (decide (x5_0 < (0 : Int)))) (Cnd (e.1 = (13 : Int)) (K (decide (x5_0 ≤ (0 : Int)))) (Cnd (e.1 = (14 : Int)) (K (decide ((0 : Int) < x5_0))) (K (decide ((0 : Int) ≤ x5_0)))))) (K false)))))) (Cnd (e.1 = (7 : Int)) (X_value_Equal x0_0 y3 fun x5_0 => K x5_0) (Cnd (e.1 = (9 : Int)) (K false) (Cnd (e.1 = (10 : Int)) (K false) (Cnd (e.1 = (11 : Int)) (Cnd (y3.1 = (3 : Int)) (Cnd (x0_0.1 = (5 : Int)) (x0_0.4.length ≤ (9223372036854775807 : Nat) → Lp1 (fun x6_0 Y6_1 => Cnd (x6_0 < (↑x0_0.4.length : Int)) (((0 : Int) ≤ x6_0 ∧ x6_0 < (↑x0_0.4.length : Int)) ∧ ∀ y7, x0_0.4[x6_0.toNat]? = some y7 → Cnd (y3.3 = y7) (K (decide ((0 : Int) ≤ x6_0))) (InI (x6_0 + (1 : Int)) ∧ Y6_1 (x6_0 + (1 : Int)))) (K (decide ((0 : Int) ≤ (-1 : Int))))) (0 : Int)) (K false)) (K false)) (X_value_Compare x0_0 y3 fun x5_0 x5_1 => Cnd (x5_1 = (0 : Int)) (Cnd (e.1 = (12 : Int)) (K (decide (x5_0 < (0 : Int)))) (Cnd (e.1 = (13 : Int)) (K (decide (x5_0 ≤ (0 : Int)))) (Cnd (e.1 = (14 : Int)) (K (decide ((0 : Int) < x5_0))) (K (decide ((0 : Int) ≤ x5_0)))))) (K false)))))))))) (K false)) (K false)
def P_clause_Test (s : Subj) (e : Ex) (K : Bool → Prop) : Prop := S_clause_Test P_subject_Lookup P_clause_test P_value_Equal P_strings_HasPrefix P_strings_HasSuffix P_strings_Contains P_value_Compare s e K
abbrev T_clause_Eval : Type := Subj → List (ByteArray) → Ex → (Bool → Prop) → Prop
def S_clause_Eval (X_clause_Test : T_clause_Test) (X : T_clause_Eval) (s : Subj) (in_ : List (ByteArray)) (e : Ex) (K : Bool → Prop) : Prop := Cnd (e.1 = (1 : Int)) (K true) (Cnd (e.1 = (2 : Int)) (e.5.length ≤ (9223372036854775807 : Nat) → Lp1 (fun x1_0 Y1_1 => Cnd (x1_0 < (↑e.5.length : Int)) (((0 : Int) ≤ x1_0 ∧ x1_0 < (↑e.5.length : Int)) ∧ ∀ y2, e.5[x1_0.toNat]? = some y2 → X (Subj.mk s.1) in_ (Ex.mk y2.1 y2.2 y2.3 y2.4 y2.5) fun x4_0 => Cnd (x4_0 = true) (InI (x1_0 + (1 : Int)) ∧ Y1_1 (x1_0 + (1 : Int))) (K (match decide ((0 : Int) ≤ x1_0) with | true => false | false => true))) (K true)) (0 : Int)) (Cnd (e.1 = (3 : Int)) (e.5.length ≤ (9223372036854775807 : Nat) → Lp1 (fun x1_0 Y1_1 => Cnd (x1_0 < (↑e.5.length : Int)) (((0 : Int) ≤ x1_0 ∧ x1_0 < (↑e.5.length : Int)) ∧ ∀ y2, e.5[x1_0.toNat]? = some y2 → X (Subj.mk s.1) in_ (Ex.mk y2.1 y2.2 y2.3 y2.4 y2.5) fun x4_0 => Cnd (x4_0 = true) (K (decide ((0 : Int) ≤ x1_0))) (InI (x1_0 + (1 : Int)) ∧ Y1_1 (x1_0 + (1 : Int)))) (K (decide ((0 : Int) ≤ (-1 : Int))))) (0 : Int)) (Cnd (e.1 = (4 : Int)) (e.5.length ≤ (9223372036854775807 : Nat) → Cnd ((0 : Int) < (↑e.5.length : Int)) (((0 : Int) ≤ (0 : Int) ∧ (0 : Int) < (↑e.5.length : Int)) ∧ ∀ y1, e.5[Int.toNat (0 : Int)]? = some y1 → X (Subj.mk s.1) in_ (Ex.mk y1.1 y1.2 y1.3 y1.4 y1.5) fun x3_0 => K (match decide ((x3_0, ()).fst = true) with | true => false | false => true)) (K false)) (Cnd (e.1 = (5 : Int)) (in_.length ≤ (9223372036854775807 : Nat) → Lp1 (fun x1_0 Y1_1 => Cnd (x1_0 < (↑in_.length : Int)) (((0 : Int) ≤ x1_0 ∧ x1_0 < (↑in_.length : Int)) ∧ ∀ y2, in_[x1_0.toNat]? = some y2 → Cnd (e.3 = y2) (K (decide ((0 : Int) ≤ x1_0))) (InI (x1_0 + (1 : Int)) ∧ Y1_1 (x1_0 + (1 : Int)))) (K (decide ((0 : Int) ≤ (-1 : Int))))) (0 : Int)) (X_clause_Test (Subj.mk s.1) (Ex.mk e.1 e.2 e.3 e.4 e.5) fun x0_0 => K x0_0)))))
def P_clause_Eval (s : Subj) (in_ : List (ByteArray)) (e : Ex) (K : Bool → Prop) : Prop := ∀ X : T_clause_Eval, (∀ s in_ e K, S_clause_Eval P_clause_Test X s in_ e K → X s in_ e K) → X s in_ e K
abbrev T_segment_contains : Type := Seg → Subj → List (ByteArray) → (Bool → Prop) → Prop
def S_segment_contains (X_subject_Find : T_subject_Find) (X_clause_Eval : T_clause_Eval) (g : Seg) (s : Subj) (in_ : List (ByteArray)) (K : Bool → Prop) : Prop := X_subject_Find (Subj.mk s.1) g.2 fun x0_0 x0_1 => Cnd (x0_1 = true) (g.4.length ≤ (9223372036854775807 : Nat) → Lp1 (fun x2_0 Y2_1 => Cnd (x2_0 < (↑g.4.length : Int)) (((0 : Int) ≤ x2_0 ∧ x2_0 < (↑g.4.length : Int)) ∧ ∀ y3, g.4[x2_0.toNat]? = some y3 → Cnd (x0_0.2 = y3) (Cnd ((0 : Int) ≤ x2_0) (K false) (g.3.length ≤ (9223372036854775807 : Nat) → Lp1 (fun x6_0 Y6_1 => Cnd (x6_0 < (↑g.3.length : Int)) (((0 : Int) ≤ x6_0 ∧ x6_0 < (↑g.3.length : Int)) ∧ ∀ y7, g.3[x6_0.toNat]? = some y7 → Cnd (x0_0.2 = y7) (Cnd ((0 : Int) ≤ x6_0) (K true) (Cnd (g.5.1 = (0 : Int)) (K false) (X_clause_Eval (Subj.mk s.1) in_ (Ex.mk g.5.1 g.5.2 g.5.3 g.5.4 g.5.5) fun x9_0 => K x9_0))) (InI (x6_0 + (1 : Int)) ∧ Y6_1 (x6_0 + (1 : Int)))) (Cnd ((0 : Int) ≤ (-1 : Int)) (K true) (Cnd (g.5.1 = (0 : Int)) (K false) (X_clause_Eval (Subj.mk s.1) in_ (Ex.mk g.5.1 g.5.2 g.5.3 g.5.4 g.5.5) fun x7_0 => K x7_0)))) (0 : Int))) (InI (x2_0 + (1 : Int)) ∧ Y2_1 (x2_0 + (1 : Int)))) (Cnd ((0 : Int) ≤ (-1 : Int)) (K false) (g.3.length ≤ (9223372036854775807 : Nat) → Lp1 (fun x4_0 Y4_1 => Cnd (x4_0 < (↑g.3.length : Int)) (((0 : Int) ≤ x4_0 ∧ x4_0 < (↑g.3.length : Int)) ∧ ∀ y5, g.3[x4_0.toNat]? = some y5 → Cnd (x0_0.2 = y5) (Cnd ((0 : Int) ≤ x4_0) (K true) (Cnd (g.5.1 = (0 : Int)) (K false) (X_clause_Eval (Subj.mk s.1) in_ (Ex.mk g.5.1 g.5.2 g.5.3 g.5.4 g.5.5) fun x7_0 => K x7_0))) (InI (x4_0 + (1 : Int)) ∧ Y4_1 (x4_0 + (1 : Int)))) (Cnd ((0 : Int) ≤ (-1 : Int)) (K true) (Cnd (g.5.1 = (0 : Int)) (K false) (X_clause_Eval (Subj.mk s.1) in_ (Ex.mk g.5.1 g.5.2 g.5.3 g.5.4 g.5.5) fun x5_0 => K x5_0)))) (0 : Int)))) (0 : Int)) (K false)
def P_segment_contains (g : Seg) (s : Subj) (in_ : List (ByteArray)) (K : Bool → Prop) : Prop := S_segment_contains P_subject_Find P_clause_Eval g s in_ K
abbrev T_segment_Members : Type := List (Seg) → Subj → (List (ByteArray) → Prop) → Prop
def S_segment_Members (X_segment_Order : T_segment_Order) (X_segment_contains : T_segment_contains) (X_slices_Sort_string_string_ : T_slices_Sort_string_string_) (l : List (Seg)) (s : Subj) (K : List (ByteArray) → Prop) : Prop := X_segment_Order l fun x0_0 x0_1 => Cnd (x0_1 = (0 : Int)) (l.length ≤ (9223372036854775807 : Nat) → Lp2 (fun x2_0 Y2_1 Y2_2 => Cnd (x2_0 < (↑l.length : Int)) (((0 : Int) ≤ x2_0 ∧ x2_0 < (↑l.length : Int)) ∧ ∀ y3, l[x2_0.toNat]? = some y3 → InI (x2_0 + (1 : Int)) ∧ Y2_2 (x2_0 + (1 : Int)) (put Y2_1 y3.1 (Seg.mk y3.1 y3.2 y3.3 y3.4 (Ex.mk y3.5.1 y3.5.2 y3.5.3 y3.5.4 y3.5.5)))) (x0_0.length ≤ (9223372036854775807 : Nat) → Lp2 (fun x4_0 x4_1 Y4_2 => Cnd (x4_1 < (↑x0_0.length : Int)) (((0 : Int) ≤ x4_1 ∧ x4_1 < (↑x0_0.length : Int)) ∧ ∀ y5, x0_0[x4_1.toNat]? = some y5 → X_segment_contains (Seg.mk ((Y2_1 y5).getD (Seg.mk (ByteArray.mk (Array.mk [])) (ByteArray.mk (Array.mk [])) [] [] (Ex.mk (0 : Int) (ByteArray.mk (Array.mk [])) (ByteArray.mk (Array.mk [])) [] []))).1 ((Y2_1 y5).getD (Seg.mk (ByteArray.mk (Array.mk [])) (ByteArray.mk (Array.mk [])) [] [] (Ex.mk (0 : Int) (ByteArray.mk (Array.mk [])) (ByteArray.mk (Array.mk [])) [] []))).2 ((Y2_1 y5).getD (Seg.mk (ByteArray.mk (Array.mk [])) (ByteArray.mk (Array.mk [])) [] [] (Ex.mk (0 : Int) (ByteArray.mk (Array.mk [])) (ByteArray.mk (Array.mk [])) [] []))).3 ((Y2_1 y5).getD (Seg.mk (ByteArray.mk (Array.mk [])) (ByteArray.mk (Array.mk [])) [] [] (Ex.mk (0 : Int) (ByteArray.mk (Array.mk [])) (ByteArray.mk (Array.mk [])) [] []))).4 (Ex.mk ((Y2_1 y5).getD (Seg.mk (ByteArray.mk (Array.mk [])) (ByteArray.mk (Array.mk [])) [] [] (Ex.mk (0 : Int) (ByteArray.mk (Array.mk [])) (ByteArray.mk (Array.mk [])) [] []))).5.1 ((Y2_1 y5).getD (Seg.mk (ByteArray.mk (Array.mk [])) (ByteArray.mk (Array.mk [])) [] [] (Ex.mk (0 : Int) (ByteArray.mk (Array.mk [])) (ByteArray.mk (Array.mk [])) [] []))).5.2 ((Y2_1 y5).getD (Seg.mk (ByteArray.mk (Array.mk [])) (ByteArray.mk (Array.mk [])) [] [] (Ex.mk (0 : Int) (ByteArray.mk (Array.mk [])) (ByteArray.mk (Array.mk [])) [] []))).5.3 ((Y2_1 y5).getD (Seg.mk (ByteArray.mk (Array.mk [])) (ByteArray.mk (Array.mk [])) [] [] (Ex.mk (0 : Int) (ByteArray.mk (Array.mk [])) (ByteArray.mk (Array.mk [])) [] []))).5.4 ((Y2_1 y5).getD (Seg.mk (ByteArray.mk (Array.mk [])) (ByteArray.mk (Array.mk [])) [] [] (Ex.mk (0 : Int) (ByteArray.mk (Array.mk [])) (ByteArray.mk (Array.mk [])) [] []))).5.5)) (Subj.mk s.1) x4_0 fun x7_0 => Cnd (x7_0 = true) (Sml (x4_0 ++ [y5]).length ∧ InI (x4_1 + (1 : Int)) ∧ Y4_2 (x4_0 ++ [y5]) (x4_1 + (1 : Int))) (InI (x4_1 + (1 : Int)) ∧ Y4_2 x4_0 (x4_1 + (1 : Int)))) (X_slices_Sort_string_string_ x4_0 fun x5_0 => K x5_0)) [] (0 : Int))) (0 : Int) fun _ => none) (K [])
def P_segment_Members (l : List (Seg)) (s : Subj) (K : List (ByteArray) → Prop) : Prop := S_segment_Members P_segment_Order P_segment_contains P_slices_Sort_string_string_ l s K
abbrev T_segment_Contains : Type := List (Seg) → Subj → ByteArray → (Bool → Prop) → Prop
def S_segment_Contains (X_segment_Members : T_segment_Members) (l : List (Seg)) (s : Subj) (key : ByteArray) (K : Bool → Prop) : Prop := X_segment_Members l (Subj.mk s.1) fun x0_0 => x0_0.length ≤ (9223372036854775807 : Nat) → Lp1 (fun x2_0 Y2_1 => Cnd (x2_0 < (↑x0_0.length : Int)) (((0 : Int) ≤ x2_0 ∧ x2_0 < (↑x0_0.length : Int)) ∧ ∀ y3, x0_0[x2_0.toNat]? = some y3 → Cnd (key = y3) (K (decide ((0 : Int) ≤ x2_0))) (InI (x2_0 + (1 : Int)) ∧ Y2_1 (x2_0 + (1 : Int)))) (K (decide ((0 : Int) ≤ (-1 : Int))))) (0 : Int)
def P_segment_Contains (l : List (Seg)) (s : Subj) (key : ByteArray) (K : Bool → Prop) : Prop := S_segment_Contains P_segment_Members l s key K
abbrev T_law12_awake : Type := (Bool → Prop) → Prop
def S_law12_awake (X_segment_Contains : T_segment_Contains) (X_segment_Members : T_segment_Members)  (K : Bool → Prop) : Prop := X_segment_Contains [Seg.mk (ByteArray.mk (Array.mk [(98 : UInt8), (101 : UInt8), (116 : UInt8), (97 : UInt8)])) (ByteArray.mk (Array.mk [(117 : UInt8), (115 : UInt8), (101 : UInt8), (114 : UInt8)])) [ByteArray.mk (Array.mk [(97 : UInt8)]), ByteArray.mk (Array.mk [(98 : UInt8)])] [ByteArray.mk (Array.mk [(98 : UInt8)])] (Ex.mk (0 : Int) (ByteArray.mk (Array.mk [])) (ByteArray.mk (Array.mk [])) [] [])] (Subj.mk [Ctxt.mk (ByteArray.mk (Array.mk [(117 : UInt8), (115 : UInt8), (101 : UInt8), (114 : UInt8)])) (ByteArray.mk (Array.mk [(97 : UInt8)])) []]) (ByteArray.mk (Array.mk [(98 : UInt8), (101 : UInt8), (116 : UInt8), (97 : UInt8)])) fun x0_0 => Cnd (x0_0 = true) (X_segment_Contains [Seg.mk (ByteArray.mk (Array.mk [(98 : UInt8), (101 : UInt8), (116 : UInt8), (97 : UInt8)])) (ByteArray.mk (Array.mk [(117 : UInt8), (115 : UInt8), (101 : UInt8), (114 : UInt8)])) [ByteArray.mk (Array.mk [(97 : UInt8)]), ByteArray.mk (Array.mk [(98 : UInt8)])] [ByteArray.mk (Array.mk [(98 : UInt8)])] (Ex.mk (0 : Int) (ByteArray.mk (Array.mk [])) (ByteArray.mk (Array.mk [])) [] [])] (Subj.mk [Ctxt.mk (ByteArray.mk (Array.mk [(117 : UInt8), (115 : UInt8), (101 : UInt8), (114 : UInt8)])) (ByteArray.mk (Array.mk [(98 : UInt8)])) []]) (ByteArray.mk (Array.mk [(98 : UInt8), (101 : UInt8), (116 : UInt8), (97 : UInt8)])) fun x1_0 => Cnd (x1_0 = true) (K false) (X_segment_Members [Seg.mk (ByteArray.mk (Array.mk [(98 : UInt8), (101 : UInt8), (116 : UInt8), (97 : UInt8)])) (ByteArray.mk (Array.mk [(117 : UInt8), (115 : UInt8), (101 : UInt8), (114 : UInt8)])) [ByteArray.mk (Array.mk [(97 : UInt8)]), ByteArray.mk (Array.mk [(98 : UInt8)])] [ByteArray.mk (Array.mk [(98 : UInt8)])] (Ex.mk (0 : Int) (ByteArray.mk (Array.mk [])) (ByteArray.mk (Array.mk [])) [] [])] (Subj.mk [Ctxt.mk (ByteArray.mk (Array.mk [(117 : UInt8), (115 : UInt8), (101 : UInt8), (114 : UInt8)])) (ByteArray.mk (Array.mk [(97 : UInt8)])) []]) fun x2_0 => x2_0.length ≤ (9223372036854775807 : Nat) → K (decide ((↑x2_0.length : Int) = (1 : Int))))) (K false)
def P_law12_awake  (K : Bool → Prop) : Prop := S_law12_awake P_segment_Contains P_segment_Members  K
abbrev T_d_New : Type := List (Int) → Int → (List (Int) → Int → Prop) → Prop
def P_d_New (list_ : List (Int)) (most : Int) (K : List (Int) → Int → Prop) : Prop := Jn1 (fun x0_0 => K x0_0 (0 : Int)) fun Y0_0 => list_.length ≤ (9223372036854775807 : Nat) → Cnd (most < (↑list_.length : Int)) (((0 : Int) ≤ (0 : Int) ∧ (0 : Int) ≤ most ∧ most ≤ (↑list_.length : Int)) ∧ Y0_0 (List.drop (Int.toNat (0 : Int)) (List.take most.toNat list_))) (Y0_0 list_)
abbrev T_r5_Find : Type := Subj → ByteArray → (Ctxt → Bool → Prop) → Prop
def P_r5_Find (s : Subj) (kind : ByteArray) (K : Ctxt → Bool → Prop) : Prop := Lp4 (fun x0_0 x0_1 x0_2 (x0_3 : List Attr) Y0_4 => s.1.length ≤ (9223372036854775807 : Nat) → Cnd (x0_0 < (↑s.1.length : Int)) (((0 : Int) ≤ x0_0 ∧ x0_0 < (↑s.1.length : Int)) ∧ ∀ y2, s.1[x0_0.toNat]? = some y2 → Cnd (y2.1 = kind) (((0 : Int) ≤ x0_0 ∧ x0_0 < (↑s.1.length : Int)) ∧ ∀ y4, s.1[x0_0.toNat]? = some y4 → K y4 true) (InI (x0_0 + (1 : Int)) ∧ Y0_4 (x0_0 + (1 : Int)) x0_1 x0_2 x0_3)) (K (Ctxt.mk (ByteArray.mk (Array.mk [])) (ByteArray.mk (Array.mk [])) []) false)) (0 : Int) (ByteArray.mk (Array.mk [])) (ByteArray.mk (Array.mk [])) []
abbrev T_r5_Lookup : Type := Subj → ByteArray → ByteArray → (Val → Bool → Prop) → Prop
def S_r5_Lookup (X_r5_Find : T_r5_Find) (s : Subj) (kind : ByteArray) (name : ByteArray) (K : Val → Bool → Prop) : Prop := X_r5_Find (Subj.mk s.1) kind fun x0_0 x0_1 => Cnd (x0_1 = true) (Cnd (name = ByteArray.mk (Array.mk [(107 : UInt8), (101 : UInt8), (121 : UInt8)])) (K (Val.mk (3 : Int) (0 : Int) x0_0.2 []) true) (Lp5 (fun x1_0 x1_1 x1_2 x1_3 (x1_4 : List ByteArray) Y1_5 => x0_0.3.length ≤ (9223372036854775807 : Nat) → Cnd (x1_0 < (↑x0_0.3.length : Int)) (((0 : Int) ≤ x1_0 ∧ x1_0 < (↑x0_0.3.length : Int)) ∧ ∀ y3, x0_0.3[x1_0.toNat]? = some y3 → Cnd (y3.1 = name) (((0 : Int) ≤ x1_0 ∧ x1_0 < (↑x0_0.3.length : Int)) ∧ ∀ y5, x0_0.3[x1_0.toNat]? = some y5 → K (Val.mk y5.2.1 y5.2.2 y5.2.3 y5.2.4) true) (InI (x1_0 + (1 : Int)) ∧ Y1_5 (x1_0 + (1 : Int)) x1_1 x1_2 x1_3 x1_4)) (K (Val.mk (0 : Int) (0 : Int) (ByteArray.mk (Array.mk [])) []) false)) (0 : Int) (0 : Int) (0 : Int) (ByteArray.mk (Array.mk [])) [])) (K (Val.mk (0 : Int) (0 : Int) (ByteArray.mk (Array.mk [])) []) false)
def P_r5_Lookup (s : Subj) (kind : ByteArray) (name : ByteArray) (K : Val → Bool → Prop) : Prop := S_r5_Lookup P_r5_Find s kind name K
abbrev T_r11_within : Type := ByteArray → ByteArray → Int → (Bool → Prop) → Prop
def P_r11_within (s : ByteArray) (t : ByteArray) (i : Int) (K : Bool → Prop) : Prop := Cnd ((0 : Int) ≤ i) (InI (i + (↑t.size : Int)) ∧ Cnd (i + (↑t.size : Int) ≤ (↑s.size : Int)) (InI (i + (↑t.size : Int)) ∧ ((0 : Int) ≤ i ∧ i ≤ i + (↑t.size : Int) ∧ i + (↑t.size : Int) ≤ (↑s.size : Int)) ∧ K (decide (s.extract i.toNat (i + (↑t.size : Int)).toNat = t))) (K false)) (K false)
abbrev T_r11_contains : Type := Val → Val → (Bool → Prop) → Prop
def S_r11_contains (X_r1_Has : T_r1_Has) (X_r11_within : T_r11_within) (v : Val) (w : Val) (K : Bool → Prop) : Prop := Cnd (w.1 = (3 : Int)) (Cnd (v.1 = (5 : Int)) (X_r1_Has v.4 w.3 fun x0_0 => K x0_0) (Lp1 (fun x0_0 Y0_1 => Cnd (v.1 = (3 : Int)) (InI (x0_0 + (↑w.3.size : Int)) ∧ Cnd (x0_0 + (↑w.3.size : Int) ≤ (↑v.3.size : Int)) (X_r11_within v.3 w.3 x0_0 fun x1_0 => Cnd (x1_0 = true) (K true) (InI (x0_0 + (1 : Int)) ∧ Y0_1 (x0_0 + (1 : Int)))) (K false)) (K false)) (0 : Int))) (K false)
def P_r11_contains (v : Val) (w : Val) (K : Bool → Prop) : Prop := S_r11_contains P_r1_Has P_r11_within v w K
abbrev T_r3_sign : Type := Bool → Bool → (Int → Prop) → Prop
def P_r3_sign (less : Bool) (greater : Bool) (K : Int → Prop) : Prop := Cnd (less = true) (K (-1 : Int)) (Cnd (greater = true) (K (1 : Int)) (K (0 : Int)))
abbrev T_r3_Compare : Type := Val → Val → (Int → Int → Prop) → Prop
def S_r3_Compare (X_r3_Check : T_r3_Check) (X_r3_sign : T_r3_sign) (X_r3_parts : T_r3_parts) (a : Val) (b : Val) (K : Int → Int → Prop) : Prop := X_r3_Check a fun x0_0 => Cnd (x0_0 = (0 : Int)) (X_r3_Check b fun x1_0 => Cnd (x1_0 = (0 : Int)) (Cnd (a.1 = b.1) (Cnd (a.1 = (1 : Int)) (K (0 : Int) (8 : Int)) (Cnd (a.1 = (5 : Int)) (K (0 : Int) (8 : Int)) (Cnd (a.1 = (2 : Int)) (X_r3_sign (decide (a.2 < b.2)) (decide (b.2 < a.2)) fun x2_0 => K x2_0 (0 : Int)) (Cnd (a.1 = (3 : Int)) (X_r3_sign (decide (Lk.blt a.3 b.3)) (decide (Lk.blt b.3 a.3)) fun x2_0 => K x2_0 (0 : Int)) (X_r3_parts a.3 fun (x2_0 : Int × Int × Int) _ => X_r3_parts b.3 fun (x3_0 : Int × Int × Int) _ => Lp1 (fun x4_0 Y4_1 => Cnd (x4_0 < (3 : Int)) (((0 : Int) ≤ x4_0 ∧ x4_0 < (↑(3 : Nat) : Int)) ∧ ((True ∧ (x4_0 = (↑(nat_lit 0) : Int) → ((0 : Int) ≤ x4_0 ∧ x4_0 < (↑(3 : Nat) : Int)) ∧ ((True ∧ (x4_0 = (↑(nat_lit 0) : Int) → Cnd (x2_0.fst = x3_0.fst) (InI (x4_0 + (1 : Int)) ∧ Y4_1 (x4_0 + (1 : Int))) (((0 : Int) ≤ x4_0 ∧ x4_0 < (↑(3 : Nat) : Int)) ∧ ((True ∧ (x4_0 = (↑(nat_lit 0) : Int) → ((0 : Int) ≤ x4_0 ∧ x4_0 < (↑(3 : Nat) : Int)) ∧ ((True ∧ (x4_0 = (↑(nat_lit 0) : Int) → X_r3_sign (decide (x2_0.fst < x3_0.fst)) true fun x9_0 => K x9_0 (0 : Int))) ∧ (x4_0 = (↑(nat_lit 1) : Int) → X_r3_sign (decide (x2_0.fst < x3_0.snd.fst)) true fun x9_0 => K x9_0 (0 : Int))) ∧ (x4_0 = (↑(nat_lit 2) : Int) → X_r3_sign (decide (x2_0.fst < x3_0.snd.snd)) true fun x9_0 => K x9_0 (0 : Int)))) ∧ (x4_0 = (↑(nat_lit 1) : Int) → ((0 : Int) ≤ x4_0 ∧ x4_0 < (↑(3 : Nat) : Int)) ∧ ((True ∧ (x4_0 = (↑(nat_lit 0) : Int) → X_r3_sign (decide (x2_0.snd.fst < x3_0.fst)) true fun x9_0 => K x9_0 (0 : Int))) ∧ (x4_0 = (↑(nat_lit 1) : Int) → X_r3_sign (decide (x2_0.snd.fst < x3_0.snd.fst)) true fun x9_0 => K x9_0 (0 : Int))) ∧ (x4_0 = (↑(nat_lit 2) : Int) → X_r3_sign (decide (x2_0.snd.fst < x3_0.snd.snd)) true fun x9_0 => K x9_0 (0 : Int)))) ∧ (x4_0 = (↑(nat_lit 2) : Int) → ((0 : Int) ≤ x4_0 ∧ x4_0 < (↑(3 : Nat) : Int)) ∧ ((True ∧ (x4_0 = (↑(nat_lit 0) : Int) → X_r3_sign (decide (x2_0.snd.snd < x3_0.fst)) true fun x9_0 => K x9_0 (0 : Int))) ∧ (x4_0 = (↑(nat_lit 1) : Int) → X_r3_sign (decide (x2_0.snd.snd < x3_0.snd.fst)) true fun x9_0 => K x9_0 (0 : Int))) ∧ (x4_0 = (↑(nat_lit 2) : Int) → X_r3_sign (decide (x2_0.snd.snd < x3_0.snd.snd)) true fun x9_0 => K x9_0 (0 : Int)))))) ∧ (x4_0 = (↑(nat_lit 1) : Int) → Cnd (x2_0.fst = x3_0.snd.fst) (InI (x4_0 + (1 : Int)) ∧ Y4_1 (x4_0 + (1 : Int))) (((0 : Int) ≤ x4_0 ∧ x4_0 < (↑(3 : Nat) : Int)) ∧ ((True ∧ (x4_0 = (↑(nat_lit 0) : Int) → ((0 : Int) ≤ x4_0 ∧ x4_0 < (↑(3 : Nat) : Int)) ∧ ((True ∧ (x4_0 = (↑(nat_lit 0) : Int) → X_r3_sign (decide (x2_0.fst < x3_0.fst)) true fun x9_0 => K x9_0 (0 : Int))) ∧ (x4_0 = (↑(nat_lit 1) : Int) → X_r3_sign (decide (x2_0.fst < x3_0.snd.fst)) true fun x9_0 => K x9_0 (0 : Int))) ∧ (x4_0 = (↑(nat_lit 2) : Int) → X_r3_sign (decide (x2_0.fst < x3_0.snd.snd)) true fun x9_0 => K x9_0 (0 : Int)))) ∧ (x4_0 = (↑(nat_lit 1) : Int) → ((0 : Int) ≤ x4_0 ∧ x4_0 < (↑(3 : Nat) : Int)) ∧ ((True ∧ (x4_0 = (↑(nat_lit 0) : Int) → X_r3_sign (decide (x2_0.snd.fst < x3_0.fst)) true fun x9_0 => K x9_0 (0 : Int))) ∧ (x4_0 = (↑(nat_lit 1) : Int) → X_r3_sign (decide (x2_0.snd.fst < x3_0.snd.fst)) true fun x9_0 => K x9_0 (0 : Int))) ∧ (x4_0 = (↑(nat_lit 2) : Int) → X_r3_sign (decide (x2_0.snd.fst < x3_0.snd.snd)) true fun x9_0 => K x9_0 (0 : Int)))) ∧ (x4_0 = (↑(nat_lit 2) : Int) → ((0 : Int) ≤ x4_0 ∧ x4_0 < (↑(3 : Nat) : Int)) ∧ ((True ∧ (x4_0 = (↑(nat_lit 0) : Int) → X_r3_sign (decide (x2_0.snd.snd < x3_0.fst)) true fun x9_0 => K x9_0 (0 : Int))) ∧ (x4_0 = (↑(nat_lit 1) : Int) → X_r3_sign (decide (x2_0.snd.snd < x3_0.snd.fst)) true fun x9_0 => K x9_0 (0 : Int))) ∧ (x4_0 = (↑(nat_lit 2) : Int) → X_r3_sign (decide (x2_0.snd.snd < x3_0.snd.snd)) true fun x9_0 => K x9_0 (0 : Int)))))) ∧ (x4_0 = (↑(nat_lit 2) : Int) → Cnd (x2_0.fst = x3_0.snd.snd) (InI (x4_0 + (1 : Int)) ∧ Y4_1 (x4_0 + (1 : Int))) (((0 : Int) ≤ x4_0 ∧ x4_0 < (↑(3 : Nat) : Int)) ∧ ((True ∧ (x4_0 = (↑(nat_lit 0) : Int) → ((0 : Int) ≤ x4_0 ∧ x4_0 < (↑(3 : Nat) : Int)) ∧ ((True ∧ (x4_0 = (↑(nat_lit 0) : Int) → X_r3_sign (decide (x2_0.fst < x3_0.fst)) true fun x9_0 => K x9_0 (0 : Int))) ∧ (x4_0 = (↑(nat_lit 1) : Int) → X_r3_sign (decide (x2_0.fst < x3_0.snd.fst)) true fun x9_0 => K x9_0 (0 : Int))) ∧ (x4_0 = (↑(nat_lit 2) : Int) → X_r3_sign (decide (x2_0.fst < x3_0.snd.snd)) true fun x9_0 => K x9_0 (0 : Int)))) ∧ (x4_0 = (↑(nat_lit 1) : Int) → ((0 : Int) ≤ x4_0 ∧ x4_0 < (↑(3 : Nat) : Int)) ∧ ((True ∧ (x4_0 = (↑(nat_lit 0) : Int) → X_r3_sign (decide (x2_0.snd.fst < x3_0.fst)) true fun x9_0 => K x9_0 (0 : Int))) ∧ (x4_0 = (↑(nat_lit 1) : Int) → X_r3_sign (decide (x2_0.snd.fst < x3_0.snd.fst)) true fun x9_0 => K x9_0 (0 : Int))) ∧ (x4_0 = (↑(nat_lit 2) : Int) → X_r3_sign (decide (x2_0.snd.fst < x3_0.snd.snd)) true fun x9_0 => K x9_0 (0 : Int)))) ∧ (x4_0 = (↑(nat_lit 2) : Int) → ((0 : Int) ≤ x4_0 ∧ x4_0 < (↑(3 : Nat) : Int)) ∧ ((True ∧ (x4_0 = (↑(nat_lit 0) : Int) → X_r3_sign (decide (x2_0.snd.snd < x3_0.fst)) true fun x9_0 => K x9_0 (0 : Int))) ∧ (x4_0 = (↑(nat_lit 1) : Int) → X_r3_sign (decide (x2_0.snd.snd < x3_0.snd.fst)) true fun x9_0 => K x9_0 (0 : Int))) ∧ (x4_0 = (↑(nat_lit 2) : Int) → X_r3_sign (decide (x2_0.snd.snd < x3_0.snd.snd)) true fun x9_0 => K x9_0 (0 : Int))))))) ∧ (x4_0 = (↑(nat_lit 1) : Int) → ((0 : Int) ≤ x4_0 ∧ x4_0 < (↑(3 : Nat) : Int)) ∧ ((True ∧ (x4_0 = (↑(nat_lit 0) : Int) → Cnd (x2_0.snd.fst = x3_0.fst) (InI (x4_0 + (1 : Int)) ∧ Y4_1 (x4_0 + (1 : Int))) (((0 : Int) ≤ x4_0 ∧ x4_0 < (↑(3 : Nat) : Int)) ∧ ((True ∧ (x4_0 = (↑(nat_lit 0) : Int) → ((0 : Int) ≤ x4_0 ∧ x4_0 < (↑(3 : Nat) : Int)) ∧ ((True ∧ (x4_0 = (↑(nat_lit 0) : Int) → X_r3_sign (decide (x2_0.fst < x3_0.fst)) true fun x9_0 => K x9_0 (0 : Int))) ∧ (x4_0 = (↑(nat_lit 1) : Int) → X_r3_sign (decide (x2_0.fst < x3_0.snd.fst)) true fun x9_0 => K x9_0 (0 : Int))) ∧ (x4_0 = (↑(nat_lit 2) : Int) → X_r3_sign (decide (x2_0.fst < x3_0.snd.snd)) true fun x9_0 => K x9_0 (0 : Int)))) ∧ (x4_0 = (↑(nat_lit 1) : Int) → ((0 : Int) ≤ x4_0 ∧ x4_0 < (↑(3 : Nat) : Int)) ∧ ((True ∧ (x4_0 = (↑(nat_lit 0) : Int) → X_r3_sign (decide (x2_0.snd.fst < x3_0.fst)) true fun x9_0 => K x9_0 (0 : Int))) ∧ (x4_0 = (↑(nat_lit 1) : Int) → X_r3_sign (decide (x2_0.snd.fst < x3_0.snd.fst)) true fun x9_0 => K x9_0 (0 : Int))) ∧ (x4_0 = (↑(nat_lit 2) : Int) → X_r3_sign (decide (x2_0.snd.fst < x3_0.snd.snd)) true fun x9_0 => K x9_0 (0 : Int)))) ∧ (x4_0 = (↑(nat_lit 2) : Int) → ((0 : Int) ≤ x4_0 ∧ x4_0 < (↑(3 : Nat) : Int)) ∧ ((True ∧ (x4_0 = (↑(nat_lit 0) : Int) → X_r3_sign (decide (x2_0.snd.snd < x3_0.fst)) true fun x9_0 => K x9_0 (0 : Int))) ∧ (x4_0 = (↑(nat_lit 1) : Int) → X_r3_sign (decide (x2_0.snd.snd < x3_0.snd.fst)) true fun x9_0 => K x9_0 (0 : Int))) ∧ (x4_0 = (↑(nat_lit 2) : Int) → X_r3_sign (decide (x2_0.snd.snd < x3_0.snd.snd)) true fun x9_0 => K x9_0 (0 : Int)))))) ∧ (x4_0 = (↑(nat_lit 1) : Int) → Cnd (x2_0.snd.fst = x3_0.snd.fst) (InI (x4_0 + (1 : Int)) ∧ Y4_1 (x4_0 + (1 : Int))) (((0 : Int) ≤ x4_0 ∧ x4_0 < (↑(3 : Nat) : Int)) ∧ ((True ∧ (x4_0 = (↑(nat_lit 0) : Int) → ((0 : Int) ≤ x4_0 ∧ x4_0 < (↑(3 : Nat) : Int)) ∧ ((True ∧ (x4_0 = (↑(nat_lit 0) : Int) → X_r3_sign (decide (x2_0.fst < x3_0.fst)) true fun x9_0 => K x9_0 (0 : Int))) ∧ (x4_0 = (↑(nat_lit 1) : Int) → X_r3_sign (decide (x2_0.fst < x3_0.snd.fst)) true fun x9_0 => K x9_0 (0 : Int))) ∧ (x4_0 = (↑(nat_lit 2) : Int) → X_r3_sign (decide (x2_0.fst < x3_0.snd.snd)) true fun x9_0 => K x9_0 (0 : Int)))) ∧ (x4_0 = (↑(nat_lit 1) : Int) → ((0 : Int) ≤ x4_0 ∧ x4_0 < (↑(3 : Nat) : Int)) ∧ ((True ∧ (x4_0 = (↑(nat_lit 0) : Int) → X_r3_sign (decide (x2_0.snd.fst < x3_0.fst)) true fun x9_0 => K x9_0 (0 : Int))) ∧ (x4_0 = (↑(nat_lit 1) : Int) → X_r3_sign (decide (x2_0.snd.fst < x3_0.snd.fst)) true fun x9_0 => K x9_0 (0 : Int))) ∧ (x4_0 = (↑(nat_lit 2) : Int) → X_r3_sign (decide (x2_0.snd.fst < x3_0.snd.snd)) true fun x9_0 => K x9_0 (0 : Int)))) ∧ (x4_0 = (↑(nat_lit 2) : Int) → ((0 : Int) ≤ x4_0 ∧ x4_0 < (↑(3 : Nat) : Int)) ∧ ((True ∧ (x4_0 = (↑(nat_lit 0) : Int) → X_r3_sign (decide (x2_0.snd.snd < x3_0.fst)) true fun x9_0 => K x9_0 (0 : Int))) ∧ (x4_0 = (↑(nat_lit 1) : Int) → X_r3_sign (decide (x2_0.snd.snd < x3_0.snd.fst)) true fun x9_0 => K x9_0 (0 : Int))) ∧ (x4_0 = (↑(nat_lit 2) : Int) → X_r3_sign (decide (x2_0.snd.snd < x3_0.snd.snd)) true fun x9_0 => K x9_0 (0 : Int)))))) ∧ (x4_0 = (↑(nat_lit 2) : Int) → Cnd (x2_0.snd.fst = x3_0.snd.snd) (InI (x4_0 + (1 : Int)) ∧ Y4_1 (x4_0 + (1 : Int))) (((0 : Int) ≤ x4_0 ∧ x4_0 < (↑(3 : Nat) : Int)) ∧ ((True ∧ (x4_0 = (↑(nat_lit 0) : Int) → ((0 : Int) ≤ x4_0 ∧ x4_0 < (↑(3 : Nat) : Int)) ∧ ((True ∧ (x4_0 = (↑(nat_lit 0) : Int) → X_r3_sign (decide (x2_0.fst < x3_0.fst)) true fun x9_0 => K x9_0 (0 : Int))) ∧ (x4_0 = (↑(nat_lit 1) : Int) → X_r3_sign (decide (x2_0.fst < x3_0.snd.fst)) true fun x9_0 => K x9_0 (0 : Int))) ∧ (x4_0 = (↑(nat_lit 2) : Int) → X_r3_sign (decide (x2_0.fst < x3_0.snd.snd)) true fun x9_0 => K x9_0 (0 : Int)))) ∧ (x4_0 = (↑(nat_lit 1) : Int) → ((0 : Int) ≤ x4_0 ∧ x4_0 < (↑(3 : Nat) : Int)) ∧ ((True ∧ (x4_0 = (↑(nat_lit 0) : Int) → X_r3_sign (decide (x2_0.snd.fst < x3_0.fst)) true fun x9_0 => K x9_0 (0 : Int))) ∧ (x4_0 = (↑(nat_lit 1) : Int) → X_r3_sign (decide (x2_0.snd.fst < x3_0.snd.fst)) true fun x9_0 => K x9_0 (0 : Int))) ∧ (x4_0 = (↑(nat_lit 2) : Int) → X_r3_sign (decide (x2_0.snd.fst < x3_0.snd.snd)) true fun x9_0 => K x9_0 (0 : Int)))) ∧ (x4_0 = (↑(nat_lit 2) : Int) → ((0 : Int) ≤ x4_0 ∧ x4_0 < (↑(3 : Nat) : Int)) ∧ ((True ∧ (x4_0 = (↑(nat_lit 0) : Int) → X_r3_sign (decide (x2_0.snd.snd < x3_0.fst)) true fun x9_0 => K x9_0 (0 : Int))) ∧ (x4_0 = (↑(nat_lit 1) : Int) → X_r3_sign (decide (x2_0.snd.snd < x3_0.snd.fst)) true fun x9_0 => K x9_0 (0 : Int))) ∧ (x4_0 = (↑(nat_lit 2) : Int) → X_r3_sign (decide (x2_0.snd.snd < x3_0.snd.snd)) true fun x9_0 => K x9_0 (0 : Int))))))) ∧ (x4_0 = (↑(nat_lit 2) : Int) → ((0 : Int) ≤ x4_0 ∧ x4_0 < (↑(3 : Nat) : Int)) ∧ ((True ∧ (x4_0 = (↑(nat_lit 0) : Int) → Cnd (x2_0.snd.snd = x3_0.fst) (InI (x4_0 + (1 : Int)) ∧ Y4_1 (x4_0 + (1 : Int))) (((0 : Int) ≤ x4_0 ∧ x4_0 < (↑(3 : Nat) : Int)) ∧ ((True ∧ (x4_0 = (↑(nat_lit 0) : Int) → ((0 : Int) ≤ x4_0 ∧ x4_0 < (↑(3 : Nat) : Int)) ∧ ((True ∧ (x4_0 = (↑(nat_lit 0) : Int) → X_r3_sign (decide (x2_0.fst < x3_0.fst)) true fun x9_0 => K x9_0 (0 : Int))) ∧ (x4_0 = (↑(nat_lit 1) : Int) → X_r3_sign (decide (x2_0.fst < x3_0.snd.fst)) true fun x9_0 => K x9_0 (0 : Int))) ∧ (x4_0 = (↑(nat_lit 2) : Int) → X_r3_sign (decide (x2_0.fst < x3_0.snd.snd)) true fun x9_0 => K x9_0 (0 : Int)))) ∧ (x4_0 = (↑(nat_lit 1) : Int) → ((0 : Int) ≤ x4_0 ∧ x4_0 < (↑(3 : Nat) : Int)) ∧ ((True ∧ (x4_0 = (↑(nat_lit 0) : Int) → X_r3_sign (decide (x2_0.snd.fst < x3_0.fst)) true fun x9_0 => K x9_0 (0 : Int))) ∧ (x4_0 = (↑(nat_lit 1) : Int) → X_r3_sign (decide (x2_0.snd.fst < x3_0.snd.fst)) true fun x9_0 => K x9_0 (0 : Int))) ∧ (x4_0 = (↑(nat_lit 2) : Int) → X_r3_sign (decide (x2_0.snd.fst < x3_0.snd.snd)) true fun x9_0 => K x9_0 (0 : Int)))) ∧ (x4_0 = (↑(nat_lit 2) : Int) → ((0 : Int) ≤ x4_0 ∧ x4_0 < (↑(3 : Nat) : Int)) ∧ ((True ∧ (x4_0 = (↑(nat_lit 0) : Int) → X_r3_sign (decide (x2_0.snd.snd < x3_0.fst)) true fun x9_0 => K x9_0 (0 : Int))) ∧ (x4_0 = (↑(nat_lit 1) : Int) → X_r3_sign (decide (x2_0.snd.snd < x3_0.snd.fst)) true fun x9_0 => K x9_0 (0 : Int))) ∧ (x4_0 = (↑(nat_lit 2) : Int) → X_r3_sign (decide (x2_0.snd.snd < x3_0.snd.snd)) true fun x9_0 => K x9_0 (0 : Int)))))) ∧ (x4_0 = (↑(nat_lit 1) : Int) → Cnd (x2_0.snd.snd = x3_0.snd.fst) (InI (x4_0 + (1 : Int)) ∧ Y4_1 (x4_0 + (1 : Int))) (((0 : Int) ≤ x4_0 ∧ x4_0 < (↑(3 : Nat) : Int)) ∧ ((True ∧ (x4_0 = (↑(nat_lit 0) : Int) → ((0 : Int) ≤ x4_0 ∧ x4_0 < (↑(3 : Nat) : Int)) ∧ ((True ∧ (x4_0 = (↑(nat_lit 0) : Int) → X_r3_sign (decide (x2_0.fst < x3_0.fst)) true fun x9_0 => K x9_0 (0 : Int))) ∧ (x4_0 = (↑(nat_lit 1) : Int) → X_r3_sign (decide (x2_0.fst < x3_0.snd.fst)) true fun x9_0 => K x9_0 (0 : Int))) ∧ (x4_0 = (↑(nat_lit 2) : Int) → X_r3_sign (decide (x2_0.fst < x3_0.snd.snd)) true fun x9_0 => K x9_0 (0 : Int)))) ∧ (x4_0 = (↑(nat_lit 1) : Int) → ((0 : Int) ≤ x4_0 ∧ x4_0 < (↑(3 : Nat) : Int)) ∧ ((True ∧ (x4_0 = (↑(nat_lit 0) : Int) → X_r3_sign (decide (x2_0.snd.fst < x3_0.fst)) true fun x9_0 => K x9_0 (0 : Int))) ∧ (x4_0 = (↑(nat_lit 1) : Int) → X_r3_sign (decide (x2_0.snd.fst < x3_0.snd.fst)) true fun x9_0 => K x9_0 (0 : Int))) ∧ (x4_0 = (↑(nat_lit 2) : Int) → X_r3_sign (decide (x2_0.snd.fst < x3_0.snd.snd)) true fun x9_0 => K x9_0 (0 : Int)))) ∧ (x4_0 = (↑(nat_lit 2) : Int) → ((0 : Int) ≤ x4_0 ∧ x4_0 < (↑(3 : Nat) : Int)) ∧ ((True ∧ (x4_0 = (↑(nat_lit 0) : Int) → X_r3_sign (decide (x2_0.snd.snd < x3_0.fst)) true fun x9_0 => K x9_0 (0 : Int))) ∧ (x4_0 = (↑(nat_lit 1) : Int) → X_r3_sign (decide (x2_0.snd.snd < x3_0.snd.fst)) true fun x9_0 => K x9_0 (0 : Int))) ∧ (x4_0 = (↑(nat_lit 2) : Int) → X_r3_sign (decide (x2_0.snd.snd < x3_0.snd.snd)) true fun x9_0 => K x9_0 (0 : Int)))))) ∧ (x4_0 = (↑(nat_lit 2) : Int) → Cnd (x2_0.snd.snd = x3_0.snd.snd) (InI (x4_0 + (1 : Int)) ∧ Y4_1 (x4_0 + (1 : Int))) (((0 : Int) ≤ x4_0 ∧ x4_0 < (↑(3 : Nat) : Int)) ∧ ((True ∧ (x4_0 = (↑(nat_lit 0) : Int) → ((0 : Int) ≤ x4_0 ∧ x4_0 < (↑(3 : Nat) : Int)) ∧ ((True ∧ (x4_0 = (↑(nat_lit 0) : Int) → X_r3_sign (decide (x2_0.fst < x3_0.fst)) true fun x9_0 => K x9_0 (0 : Int))) ∧ (x4_0 = (↑(nat_lit 1) : Int) → X_r3_sign (decide (x2_0.fst < x3_0.snd.fst)) true fun x9_0 => K x9_0 (0 : Int))) ∧ (x4_0 = (↑(nat_lit 2) : Int) → X_r3_sign (decide (x2_0.fst < x3_0.snd.snd)) true fun x9_0 => K x9_0 (0 : Int)))) ∧ (x4_0 = (↑(nat_lit 1) : Int) → ((0 : Int) ≤ x4_0 ∧ x4_0 < (↑(3 : Nat) : Int)) ∧ ((True ∧ (x4_0 = (↑(nat_lit 0) : Int) → X_r3_sign (decide (x2_0.snd.fst < x3_0.fst)) true fun x9_0 => K x9_0 (0 : Int))) ∧ (x4_0 = (↑(nat_lit 1) : Int) → X_r3_sign (decide (x2_0.snd.fst < x3_0.snd.fst)) true fun x9_0 => K x9_0 (0 : Int))) ∧ (x4_0 = (↑(nat_lit 2) : Int) → X_r3_sign (decide (x2_0.snd.fst < x3_0.snd.snd)) true fun x9_0 => K x9_0 (0 : Int)))) ∧ (x4_0 = (↑(nat_lit 2) : Int) → ((0 : Int) ≤ x4_0 ∧ x4_0 < (↑(3 : Nat) : Int)) ∧ ((True ∧ (x4_0 = (↑(nat_lit 0) : Int) → X_r3_sign (decide (x2_0.snd.snd < x3_0.fst)) true fun x9_0 => K x9_0 (0 : Int))) ∧ (x4_0 = (↑(nat_lit 1) : Int) → X_r3_sign (decide (x2_0.snd.snd < x3_0.snd.fst)) true fun x9_0 => K x9_0 (0 : Int))) ∧ (x4_0 = (↑(nat_lit 2) : Int) → X_r3_sign (decide (x2_0.snd.snd < x3_0.snd.snd)) true fun x9_0 => K x9_0 (0 : Int))))))) (K (0 : Int) (0 : Int))) (0 : Int)))))) (K (0 : Int) (8 : Int))) (K (0 : Int) x1_0)) (K (0 : Int) x0_0)
def P_r3_Compare (a : Val) (b : Val) (K : Int → Int → Prop) : Prop := S_r3_Compare P_r3_Check P_r3_sign P_r3_parts a b K
abbrev T_r11_Test : Type := Subj → Ex → (Bool → Prop) → Prop
def S_r11_Test (X_r5_Lookup : T_r5_Lookup) (X_r6_IsTest : T_r6_IsTest) (X_r3_Equal : T_r3_Equal) (X_r11_within : T_r11_within) (X_r11_contains : T_r11_contains) (X_r3_Compare : T_r3_Compare) (s : Subj) (e : Ex) (K : Bool → Prop) : Prop := X_r5_Lookup (Subj.mk s.1) e.2 e.3 fun x0_0 x0_1 => Cnd (x0_1 = true) (X_r6_IsTest e.1 fun x1_0 => Cnd (x1_0 = true) (Cnd (e.1 = (6 : Int)) (K true) (Cnd (e.1 = (8 : Int)) (Lp1 (fun x2_0 Y2_1 => e.4.length ≤ (9223372036854775807 : Nat) → Cnd (x2_0 < (↑e.4.length : Int)) (((0 : Int) ≤ x2_0 ∧ x2_0 < (↑e.4.length : Int)) ∧ ∀ y4, e.4[x2_0.toNat]? = some y4 → X_r3_Equal x0_0 y4 fun x6_0 => Cnd (x6_0 = true) (K true) (InI (x2_0 + (1 : Int)) ∧ Y2_1 (x2_0 + (1 : Int)))) (K false)) (0 : Int)) (e.4.length ≤ (9223372036854775807 : Nat) → Cnd ((↑e.4.length : Int) = (0 : Int)) (K false) (((0 : Int) ≤ (0 : Int) ∧ (0 : Int) < (↑e.4.length : Int)) ∧ ∀ y3, e.4[Int.toNat (0 : Int)]? = some y3 → Cnd (x0_0.1 = (3 : Int)) (Cnd (e.1 = (7 : Int)) (X_r3_Equal x0_0 y3 fun x5_0 => K x5_0) (Cnd (e.1 = (9 : Int)) (Cnd (y3.1 = (3 : Int)) (X_r11_within x0_0.3 y3.3 (0 : Int) fun x5_0 => K x5_0) (K false)) (Cnd (e.1 = (10 : Int)) (Cnd (y3.1 = (3 : Int)) (InI ((↑x0_0.3.size : Int) - (↑y3.3.size : Int)) ∧ X_r11_within x0_0.3 y3.3 ((↑x0_0.3.size : Int) - (↑y3.3.size : Int)) fun x5_0 => K x5_0) (K false)) (Cnd (e.1 = (11 : Int)) (X_r11_contains x0_0 y3 fun x5_0 => K x5_0) (X_r3_Compare x0_0 y3 fun x5_0 x5_1 => Cnd (x5_1 = (0 : Int)) (Cnd (e.1 = (12 : Int)) (K (decide (x5_0 < (0 : Int)))) (Cnd (e.1 = (13 : Int)) (K (decide (x5_0 ≤ (0 : Int)))) (Cnd (e.1 = (14 : Int)) (K (decide ((0 : Int) < x5_0))) (K (decide ((0 : Int) ≤ x5_0)))))) (K false)))))) (Cnd (e.1 = (7 : Int)) (X_r3_Equal x0_0 y3 fun x5_0 => K x5_0) (Cnd (e.1 = (9 : Int)) (K false) (Cnd (e.1 = (10 : Int)) (K false) (Cnd (e.1 = (11 : Int)) (X_r11_contains x0_0 y3 fun x5_0 => K x5_0) (X_r3_Compare x0_0 y3 fun x5_0 x5_1 => Cnd (x5_1 = (0 : Int)) (Cnd (e.1 = (12 : Int)) (K (decide (x5_0 < (0 : Int)))) (Cnd (e.1 = (13 : Int)) (K (decide (x5_0 ≤ (0 : Int)))) (Cnd (e.1 = (14 : Int)) (K (decide ((0 : Int) < x5_0))) (K (decide ((0 : Int) ≤ x5_0)))))) (K false)))))))))) (K false)) (K false)
def P_r11_Test (s : Subj) (e : Ex) (K : Bool → Prop) : Prop := S_r11_Test P_r5_Lookup P_r6_IsTest P_r3_Equal P_r11_within P_r11_contains P_r3_Compare s e K
abbrev T_r11_Eval : Type := Subj → List (ByteArray) → Ex → (Bool → Prop) → Prop
def S_r11_Eval (X_r1_Has : T_r1_Has) (X_r11_Test : T_r11_Test) (X : T_r11_Eval) (s : Subj) (in_ : List (ByteArray)) (e : Ex) (K : Bool → Prop) : Prop := Cnd (e.1 = (1 : Int)) (K true) (Cnd (e.1 = (2 : Int)) (Lp1 (fun x0_0 Y0_1 => e.5.length ≤ (9223372036854775807 : Nat) → Cnd (x0_0 < (↑e.5.length : Int)) (((0 : Int) ≤ x0_0 ∧ x0_0 < (↑e.5.length : Int)) ∧ ∀ y2, e.5[x0_0.toNat]? = some y2 → X (Subj.mk s.1) in_ (Ex.mk y2.1 y2.2 y2.3 y2.4 y2.5) fun x4_0 => Cnd (x4_0 = true) (InI (x0_0 + (1 : Int)) ∧ Y0_1 (x0_0 + (1 : Int))) (K false)) (K true)) (0 : Int)) (Cnd (e.1 = (3 : Int)) (Lp1 (fun x0_0 Y0_1 => e.5.length ≤ (9223372036854775807 : Nat) → Cnd (x0_0 < (↑e.5.length : Int)) (((0 : Int) ≤ x0_0 ∧ x0_0 < (↑e.5.length : Int)) ∧ ∀ y2, e.5[x0_0.toNat]? = some y2 → X (Subj.mk s.1) in_ (Ex.mk y2.1 y2.2 y2.3 y2.4 y2.5) fun x4_0 => Cnd (x4_0 = true) (K true) (InI (x0_0 + (1 : Int)) ∧ Y0_1 (x0_0 + (1 : Int)))) (K false)) (0 : Int)) (Cnd (e.1 = (4 : Int)) (e.5.length ≤ (9223372036854775807 : Nat) → Cnd ((0 : Int) < (↑e.5.length : Int)) (((0 : Int) ≤ (0 : Int) ∧ (0 : Int) < (↑e.5.length : Int)) ∧ ∀ y1, e.5[Int.toNat (0 : Int)]? = some y1 → X (Subj.mk s.1) in_ (Ex.mk y1.1 y1.2 y1.3 y1.4 y1.5) fun x3_0 => K (match decide ((x3_0, ()).fst = true) with | true => false | false => true)) (K false)) (Cnd (e.1 = (5 : Int)) (X_r1_Has in_ e.3 fun x0_0 => K x0_0) (X_r11_Test (Subj.mk s.1) (Ex.mk e.1 e.2 e.3 e.4 e.5) fun x0_0 => K x0_0)))))
def P_r11_Eval (s : Subj) (in_ : List (ByteArray)) (e : Ex) (K : Bool → Prop) : Prop := ∀ X : T_r11_Eval, (∀ s in_ e K, S_r11_Eval P_r1_Has P_r11_Test X s in_ e K → X s in_ e K) → X s in_ e K
abbrev T_r9_ready : Type := List (ByteArray) → List (Edg) → ByteArray → (Bool → Prop) → Prop
def S_r9_ready (X_r1_Has : T_r1_Has) (order : List (ByteArray)) (edges : List (Edg)) (node : ByteArray) (K : Bool → Prop) : Prop := Lp1 (fun x0_0 Y0_1 => edges.length ≤ (9223372036854775807 : Nat) → Cnd (x0_0 < (↑edges.length : Int)) (((0 : Int) ≤ x0_0 ∧ x0_0 < (↑edges.length : Int)) ∧ ∀ y2, edges[x0_0.toNat]? = some y2 → Cnd (y2.1 = node) (((0 : Int) ≤ x0_0 ∧ x0_0 < (↑edges.length : Int)) ∧ ∀ y4, edges[x0_0.toNat]? = some y4 → X_r1_Has order y4.2 fun x6_0 => Cnd (x6_0 = true) (InI (x0_0 + (1 : Int)) ∧ Y0_1 (x0_0 + (1 : Int))) (K false)) (InI (x0_0 + (1 : Int)) ∧ Y0_1 (x0_0 + (1 : Int)))) (X_r1_Has order node fun x2_0 => K (match decide ((x2_0, ()).fst = true) with | true => false | false => true))) (0 : Int)
def P_r9_ready (order : List (ByteArray)) (edges : List (Edg)) (node : ByteArray) (K : Bool → Prop) : Prop := S_r9_ready P_r1_Has order edges node K
abbrev T_r9_Order : Type := List (ByteArray) → List (Edg) → (List (ByteArray) → Int → Prop) → Prop
def S_r9_Order (X_r1_Has : T_r1_Has) (X_r9_ready : T_r9_ready) (nodes : List (ByteArray)) (edges : List (Edg)) (K : List (ByteArray) → Int → Prop) : Prop := Lp1 (fun x0_0 Y0_1 => nodes.length ≤ (9223372036854775807 : Nat) → Cnd (x0_0 < (↑nodes.length : Int)) (((0 : Int) ≤ (0 : Int) ∧ (0 : Int) ≤ x0_0 ∧ x0_0 ≤ (↑nodes.length : Int)) ∧ ((0 : Int) ≤ x0_0 ∧ x0_0 < (↑nodes.length : Int)) ∧ ∀ y2, nodes[x0_0.toNat]? = some y2 → X_r1_Has (List.drop (Int.toNat (0 : Int)) (List.take x0_0.toNat nodes)) y2 fun x4_0 => Cnd (x4_0 = true) (K [] (10 : Int)) (InI (x0_0 + (1 : Int)) ∧ Y0_1 (x0_0 + (1 : Int)))) (Lp1 (fun x2_0 Y2_1 => edges.length ≤ (9223372036854775807 : Nat) → Cnd (x2_0 < (↑edges.length : Int)) (((0 : Int) ≤ x2_0 ∧ x2_0 < (↑edges.length : Int)) ∧ ∀ y4, edges[x2_0.toNat]? = some y4 → X_r1_Has nodes y4.1 fun x6_0 => Cnd (x6_0 = true) (((0 : Int) ≤ x2_0 ∧ x2_0 < (↑edges.length : Int)) ∧ ∀ y7, edges[x2_0.toNat]? = some y7 → X_r1_Has nodes y7.2 fun x9_0 => Cnd (x9_0 = true) (InI (x2_0 + (1 : Int)) ∧ Y2_1 (x2_0 + (1 : Int))) (K [] (11 : Int))) (K [] (11 : Int))) (Lp1 (fun x4_0 Y4_1 => x4_0.length ≤ (9223372036854775807 : Nat) → nodes.length ≤ (9223372036854775807 : Nat) → Cnd ((↑x4_0.length : Int) < (↑nodes.length : Int)) (Lp4 (fun x7_0 x7_1 x7_2 x7_3 Y7_4 => nodes.length ≤ (9223372036854775807 : Nat) → Cnd (x7_2 < (↑nodes.length : Int)) (((0 : Int) ≤ x7_2 ∧ x7_2 < (↑nodes.length : Int)) ∧ ∀ y9, nodes[x7_2.toNat]? = some y9 → X_r9_ready x7_3 edges y9 fun x11_0 => Cnd (x11_0 = true) (Cnd (x7_1 = true) (((0 : Int) ≤ x7_2 ∧ x7_2 < (↑nodes.length : Int)) ∧ ∀ y12, nodes[x7_2.toNat]? = some y12 → Cnd (Lk.blt y12 x7_0) (((0 : Int) ≤ x7_2 ∧ x7_2 < (↑nodes.length : Int)) ∧ ∀ y14, nodes[x7_2.toNat]? = some y14 → InI (x7_2 + (1 : Int)) ∧ Y7_4 y14 true (x7_2 + (1 : Int)) x7_3) (InI (x7_2 + (1 : Int)) ∧ Y7_4 x7_0 x7_1 (x7_2 + (1 : Int)) x7_3)) (((0 : Int) ≤ x7_2 ∧ x7_2 < (↑nodes.length : Int)) ∧ ∀ y12, nodes[x7_2.toNat]? = some y12 → InI (x7_2 + (1 : Int)) ∧ Y7_4 y12 true (x7_2 + (1 : Int)) x7_3)) (InI (x7_2 + (1 : Int)) ∧ Y7_4 x7_0 x7_1 (x7_2 + (1 : Int)) x7_3)) (Cnd (x7_1 = true) (Sml ([] ++ x7_3).length ∧ Sml ([] ++ x7_3 ++ [x7_0]).length ∧ Y4_1 ([] ++ x7_3 ++ [x7_0])) (K [] (12 : Int)))) (ByteArray.mk (Array.mk [])) false (0 : Int) x4_0) (K x4_0 (0 : Int))) [])) (0 : Int))) (0 : Int)
def P_r9_Order (nodes : List (ByteArray)) (edges : List (Edg)) (K : List (ByteArray) → Int → Prop) : Prop := S_r9_Order P_r1_Has P_r9_ready nodes edges K
abbrev T_r11_Order : Type := List (Seg) → (List (ByteArray) → Int → Prop) → Prop
def S_r11_Order (X_r11_Keys : T_r11_Keys) (X_r11_Edges : T_r11_Edges) (X_r9_Order : T_r9_Order) (l : List (Seg)) (K : List (ByteArray) → Int → Prop) : Prop := X_r11_Keys l fun x0_0 => X_r11_Edges l fun x1_0 => X_r9_Order x0_0 x1_0 fun x2_0 x2_1 => K x2_0 x2_1
def P_r11_Order (l : List (Seg)) (K : List (ByteArray) → Int → Prop) : Prop := S_r11_Order P_r11_Keys P_r11_Edges P_r9_Order l K
abbrev T_law12_SegmentReferences : Type := List (Int) → Ex → (Bool → Prop) → Prop
def S_law12_SegmentReferences (X_law12_awake : T_law12_awake) (X_d_New : T_d_New) (X_segment_Refers : T_segment_Refers) (X_r11_Refers : T_r11_Refers) (X_r1_Same : T_r1_Same) (X_d_Next : T_d_Next) (X_d_Expr : T_d_Expr) (X_segment_Order : T_segment_Order) (X_r11_Order : T_r11_Order) (codes : List (Int)) (e : Ex) (K : Bool → Prop) : Prop := X_law12_awake fun x0_0 => Cnd (x0_0 = true) (e.5.length ≤ (9223372036854775807 : Nat) → Cnd ((20 : Int) < (↑e.5.length : Int)) (K true) (X_d_New codes (150 : Int) fun x2_0 x2_1 => Lp5 (fun x3_0 x3_1 x3_2 x3_3 x3_4 Y3_5 => x3_2.length ≤ (9223372036854775807 : Nat) → Cnd (x3_1 < (↑x3_2.length : Int)) (((0 : Int) ≤ x3_1 ∧ x3_1 < (↑x3_2.length : Int)) ∧ ∀ y5, x3_2[x3_1.toNat]? = some y5 → Jn1 (fun (x7_0 : Int × ByteArray × ByteArray × List Val × List Ex × Int × List Seg × Unit) => Sml (x7_0.snd.snd.snd.snd.snd.snd.fst ++ [Seg.mk y5 (ByteArray.mk (Array.mk [(117 : UInt8), (115 : UInt8), (101 : UInt8), (114 : UInt8)])) [] [] (Ex.mk x7_0.fst x7_0.snd.fst x7_0.snd.snd.fst x7_0.snd.snd.snd.fst x7_0.snd.snd.snd.snd.fst)]).length ∧ X_segment_Refers (Ex.mk x7_0.fst x7_0.snd.fst x7_0.snd.snd.fst x7_0.snd.snd.snd.fst x7_0.snd.snd.snd.snd.fst) fun x8_0 => X_r11_Refers (Ex.mk x7_0.fst x7_0.snd.fst x7_0.snd.snd.fst x7_0.snd.snd.snd.fst x7_0.snd.snd.snd.snd.fst) fun x9_0 => X_r1_Same x8_0 x9_0 fun x10_0 => Cnd (x10_0 = true) (InI (x3_1 + (1 : Int)) ∧ Y3_5 (x7_0.snd.snd.snd.snd.snd.snd.fst ++ [Seg.mk y5 (ByteArray.mk (Array.mk [(117 : UInt8), (115 : UInt8), (101 : UInt8), (114 : UInt8)])) [] [] (Ex.mk x7_0.fst x7_0.snd.fst x7_0.snd.snd.fst x7_0.snd.snd.snd.fst x7_0.snd.snd.snd.snd.fst)]) (x3_1 + (1 : Int)) x3_2 x3_3 x7_0.snd.snd.snd.snd.snd.fst) (K false)) fun (Y7_0 : Int × ByteArray × ByteArray × List Val × List Ex × Int × List Seg × Unit → Prop) => X_d_Next x2_0 x3_4 (3 : Int) fun x8_0 x8_1 => Cnd ((0 : Int) < x8_0) (X_d_Next x2_0 x8_1 (4 : Int) fun x9_0 x9_1 => InI ((1 : Int) + x9_0) ∧ ((0 : Int) ≤ (0 : Int) ∧ (0 : Int) ≤ (1 : Int) + x9_0 ∧ (1 : Int) + x9_0 ≤ (↑x3_2.length : Int)) ∧ X_d_Expr x2_0 x9_1 (List.drop (Int.toNat (0 : Int)) (List.take ((1 : Int) + x9_0).toNat x3_2)) (3 : Int) fun x10_0 x10_1 => Y7_0 (x10_0.1, x10_0.2, x10_0.3, x10_0.4, x10_0.5, x10_1, x3_0, ())) (Y7_0 ((0 : Int), ByteArray.mk (Array.mk []), ByteArray.mk (Array.mk []), [], [], x8_1, x3_0, ()))) (Jn2 (fun x5_0 _ => X_segment_Order x5_0 fun x6_0 x6_1 => X_r11_Order x5_0 fun x7_0 x7_1 => Cnd (x6_1 = x7_1) (X_r1_Same x6_0 x7_0 fun x8_0 => Cnd (x8_0 = true) (X_segment_Refers (Ex.mk e.1 e.2 e.3 e.4 e.5) fun x9_0 => X_r11_Refers (Ex.mk e.1 e.2 e.3 e.4 e.5) fun x10_0 => X_r1_Same x9_0 x10_0 fun x11_0 => K x11_0) (K false)) (K false)) fun Y5_0 => X_d_Next x2_0 x3_4 (5 : Int) fun x6_0 x6_1 => Cnd (x6_0 = (1 : Int)) (((0 : Int) ≤ (1 : Int) ∧ (1 : Int) ≤ (↑x3_0.length : Int) ∧ (↑x3_0.length : Int) ≤ (↑x3_0.length : Int)) ∧ Y5_0 (List.drop (Int.toNat (1 : Int)) (List.take (↑x3_0.length : Int).toNat x3_0)) x6_1) (Y5_0 x3_0 x6_1))) [] (0 : Int) [ByteArray.mk (Array.mk [(99 : UInt8)]), ByteArray.mk (Array.mk [(97 : UInt8)]), ByteArray.mk (Array.mk [(98 : UInt8)]), ByteArray.mk (Array.mk [(100 : UInt8)])] [ByteArray.mk (Array.mk [(99 : UInt8)]), ByteArray.mk (Array.mk [(97 : UInt8)]), ByteArray.mk (Array.mk [(98 : UInt8)]), ByteArray.mk (Array.mk [(100 : UInt8)])] x2_1)) (K false)
def P_law12_SegmentReferences (codes : List (Int)) (e : Ex) (K : Bool → Prop) : Prop := S_law12_SegmentReferences P_law12_awake P_d_New P_segment_Refers P_r11_Refers P_r1_Same P_d_Next P_d_Expr P_segment_Order P_r11_Order codes e K
end Go.En
end
section
namespace Go.Proofs
open Go.Shelf
def Tryz.laysC172_ren : Go.Shelf.Ren := ⟨fun | 172 => 231 | 244 => 238 | 245 => 239 | 247 => 244 | 279 => 245 | 280 => 246 | 281 => 247 | 282 => 248 | 287 => 250 | 316 => 251 | 171 => 253 | 205 => 252 | 321 => 254 | 322 => 255 | 243 => 256 | 246 => 257 | 283 => 258 | 284 => 259 | 285 => 260 | 286 => 261 | 129 => 102 | 317 => 262 | 318 => 263 | 319 => 264 | 320 => 265 | 337 => 266 | 338 => 267 | n => n, fun | 9 => 9 | 3 => 3 | 75 => 288 | 76 => 289 | 4 => 4 | 5 => 5 | 167 => 298 | 37 => 22 | 0 => 0 | 85 => 299 | 2 => 2 | 168 => 301 | 53 => 187 | 175 => 304 | 46 => 121 | 210 => 308 | 127 => 312 | 145 => 315 | 143 => 313 | 21 => 21 | 171 => 317 | 173 => 319 | 212 => 322 | 51 => 185 | 20 => 20 | 213 => 323 | 232 => 324 | 233 => 325 | 80 => 84 | n => n, fun | 15 => 6 | 16 => 7 | 17 => 8 | 18 => 9 | 19 => 10 | n => n⟩
theorem Tryz.laysC172 : Go.Proofs.LaysC.n172 Tryz.prog Tryz.laysC172_ren := {
  mixed := by kernel_rfl
  f129 := Tryz.func102.trans (congrArg some (by kernel_rfl))
  f171 := Tryz.func253.trans (congrArg some (by kernel_rfl))
  f172 := Tryz.func231.trans (congrArg some (by kernel_rfl))
  f205 := Tryz.func252.trans (congrArg some (by kernel_rfl))
  f243 := Tryz.func256.trans (congrArg some (by kernel_rfl))
  f244 := Tryz.func238.trans (congrArg some (by kernel_rfl))
  f245 := Tryz.func239.trans (congrArg some (by kernel_rfl))
  f246 := Tryz.func257.trans (congrArg some (by kernel_rfl))
  f247 := Tryz.func244.trans (congrArg some (by kernel_rfl))
  f279 := Tryz.func245.trans (congrArg some (by kernel_rfl))
  f280 := Tryz.func246.trans (congrArg some (by kernel_rfl))
  f281 := Tryz.func247.trans (congrArg some (by kernel_rfl))
  f282 := Tryz.func248.trans (congrArg some (by kernel_rfl))
  f283 := Tryz.func258.trans (congrArg some (by kernel_rfl))
  f284 := Tryz.func259.trans (congrArg some (by kernel_rfl))
  f285 := Tryz.func260.trans (congrArg some (by kernel_rfl))
  f286 := Tryz.func261.trans (congrArg some (by kernel_rfl))
  f287 := Tryz.func250.trans (congrArg some (by kernel_rfl))
  f316 := Tryz.func251.trans (congrArg some (by kernel_rfl))
  f317 := Tryz.func262.trans (congrArg some (by kernel_rfl))
  f318 := Tryz.func263.trans (congrArg some (by kernel_rfl))
  f319 := Tryz.func264.trans (congrArg some (by kernel_rfl))
  f320 := Tryz.func265.trans (congrArg some (by kernel_rfl))
  f321 := Tryz.func254.trans (congrArg some (by kernel_rfl))
  f322 := Tryz.func255.trans (congrArg some (by kernel_rfl))
  f337 := Tryz.func266.trans (congrArg some (by kernel_rfl))
  f338 := Tryz.func267.trans (congrArg some (by kernel_rfl))
  t0 := Tryz.underlying0
  a0 := Tryz.isAgg0
  z0 := Tryz.sizeOf0
  v0 := Tryz.zeroValue0
  t2 := Tryz.underlying2
  a2 := Tryz.isAgg2
  z2 := Tryz.sizeOf2
  v2 := Tryz.zeroValue2
  t3 := Tryz.underlying3
  a3 := Tryz.isAgg3
  z3 := Tryz.sizeOf3
  v3 := Tryz.zeroValue3
  t4 := Tryz.underlying4
  a4 := Tryz.isAgg4
  z4 := Tryz.sizeOf4
  v4 := Tryz.zeroValue4
  t5 := Tryz.underlying5
  a5 := Tryz.isAgg5
  z5 := Tryz.sizeOf5
  v5 := Tryz.zeroValue5
  t9 := Tryz.underlying9
  a9 := Tryz.isAgg9
  z9 := Tryz.sizeOf9
  v9 := Tryz.zeroValue9
  t20 := Tryz.underlying20
  a20 := Tryz.isAgg20
  z20 := Tryz.sizeOf20
  v20 := Tryz.zeroValue20
  t21 := Tryz.underlying21
  a21 := Tryz.isAgg21
  z21 := Tryz.sizeOf21
  v21 := Tryz.zeroValue21
  t37 := Tryz.underlying22
  a37 := Tryz.isAgg22
  z37 := Tryz.sizeOf22
  v37 := Tryz.zeroValue22
  t46 := Tryz.underlying121
  a46 := Tryz.isAgg121
  z46 := Tryz.sizeOf121
  v46 := Tryz.zeroValue121
  t51 := Tryz.underlying185
  a51 := Tryz.isAgg185
  z51 := Tryz.sizeOf185
  v51 := Tryz.zeroValue185
  t53 := Tryz.underlying187
  a53 := Tryz.isAgg187
  z53 := Tryz.sizeOf187
  v53 := Tryz.zeroValue187
  t75 := Tryz.underlying288
  a75 := Tryz.isAgg288
  z75 := Tryz.sizeOf288
  v75 := Tryz.zeroValue288
  t76 := Tryz.underlying289
  a76 := Tryz.isAgg289
  z76 := Tryz.sizeOf289
  v76 := Tryz.zeroValue289
  t85 := Tryz.underlying299
  a85 := Tryz.isAgg299
  z85 := Tryz.sizeOf299
  v85 := Tryz.zeroValue299
  t127 := Tryz.underlying312
  a127 := Tryz.isAgg312
  z127 := Tryz.sizeOf312
  v127 := Tryz.zeroValue312
  t143 := Tryz.underlying313
  a143 := Tryz.isAgg313
  z143 := Tryz.sizeOf313
  v143 := Tryz.zeroValue313
  t145 := Tryz.underlying315
  a145 := Tryz.isAgg315
  z145 := Tryz.sizeOf315
  v145 := Tryz.zeroValue315
  t167 := Tryz.underlying298
  a167 := Tryz.isAgg298
  z167 := Tryz.sizeOf298
  v167 := Tryz.zeroValue298
  t168 := Tryz.underlying301
  a168 := Tryz.isAgg301
  z168 := Tryz.sizeOf301
  v168 := Tryz.zeroValue301
  t171 := Tryz.underlying317
  a171 := Tryz.isAgg317
  z171 := Tryz.sizeOf317
  v171 := Tryz.zeroValue317
  t173 := Tryz.underlying319
  a173 := Tryz.isAgg319
  z173 := Tryz.sizeOf319
  v173 := Tryz.zeroValue319
  t175 := Tryz.underlying304
  a175 := Tryz.isAgg304
  z175 := Tryz.sizeOf304
  v175 := Tryz.zeroValue304
  t210 := Tryz.underlying308
  a210 := Tryz.isAgg308
  z210 := Tryz.sizeOf308
  v210 := Tryz.zeroValue308
  t212 := Tryz.underlying322
  a212 := Tryz.isAgg322
  z212 := Tryz.sizeOf322
  v212 := Tryz.zeroValue322
  t213 := Tryz.underlying323
  a213 := Tryz.isAgg323
  z213 := Tryz.sizeOf323
  t232 := Tryz.underlying324
  a232 := Tryz.isAgg324
  z232 := Tryz.sizeOf324
  v232 := Tryz.zeroValue324
  t233 := Tryz.underlying325
  a233 := Tryz.isAgg325
  z233 := Tryz.sizeOf325
  v233 := Tryz.zeroValue325
  g15 := by kernel_rfl
  g16 := by kernel_rfl
  g17 := by kernel_rfl
  g18 := by kernel_rfl
  g19 := by kernel_rfl
  t80 := Tryz.underlying84
  a80 := Tryz.isAgg84
  z80 := Tryz.sizeOf84
  v80 := Tryz.zeroValue84
  i0 := by kernel_rfl
  i2 := by kernel_rfl
  i3 := by kernel_rfl
  i4 := by kernel_rfl
  i5 := by kernel_rfl
  i9 := by kernel_rfl
  i20 := by kernel_rfl
  i21 := by kernel_rfl
  i37 := by kernel_rfl
  i46 := by kernel_rfl
  i51 := by kernel_rfl
  i53 := by kernel_rfl
  i75 := by kernel_rfl
  i76 := by kernel_rfl
  i80 := by kernel_rfl
  i85 := by kernel_rfl
  i127 := by kernel_rfl
  i143 := by kernel_rfl
  i145 := by kernel_rfl
  i167 := by kernel_rfl
  i168 := by kernel_rfl
  i171 := by kernel_rfl
  i173 := by kernel_rfl
  i175 := by kernel_rfl
  i210 := by kernel_rfl
  i212 := by kernel_rfl
  i232 := by kernel_rfl
  i233 := by kernel_rfl
  m15 := by kernel_rfl
  m16 := by kernel_rfl
  m17 := by kernel_rfl
  m18 := by kernel_rfl
  m19 := by kernel_rfl
  c0 := by kernel_rfl
  c2 := by kernel_rfl
  c3 := by kernel_rfl
  c4 := by kernel_rfl
  c5 := by kernel_rfl
  c9 := by kernel_rfl
  c20 := by kernel_rfl
  c21 := by kernel_rfl
  c37 := by kernel_rfl
  c46 := by kernel_rfl
  c51 := by kernel_rfl
  c53 := by kernel_rfl
  c75 := by kernel_rfl
  c76 := by kernel_rfl
  c80 := by kernel_rfl
  c85 := by kernel_rfl
  c127 := by kernel_rfl
  c143 := by kernel_rfl
  c145 := by kernel_rfl
  c167 := by kernel_rfl
  c168 := by kernel_rfl
  c171 := by kernel_rfl
  c173 := by kernel_rfl
  c175 := by kernel_rfl
  c210 := by kernel_rfl
  c212 := by kernel_rfl
  c213 := by kernel_rfl
  c232 := by kernel_rfl
  c233 := by kernel_rfl }
open Go.RowKit in
/-- strconv.Atoi, AT EVERY STRING THAT SPELLS AN int ('Lib.atoiAll .. = .ok v'; of whatever length: leading zeros count): v, AND NO ERROR. The world: as it was, or with the one new row that '[]byte(..)' lays. (LAID: no walk: one application.) -/
theorem Tryz.strconv_Atoi_ok (s : ByteArray) (hmax : s.size ≤ 9223372036854775806) (v : Int) (h : Lib.atoiAll s.data.toList = .ok v) (w : World) :
    Calls Tryz.prog 231 #[.string s] w fun e w' => e = .returned (.tuple #[.int .i64 v, .nilIface]) ∧ (w' = w ∨ ∃ t, w' = Lib.bytesWorld w 5 t) := Any.strconv_Atoi_ok Tryz.laysC172 s hmax v h w
open Go.RowKit in
/-- strconv.Atoi, AT EVERY STRING THAT IS NO DECIMAL NUMERAL ('.syntax'): 0, AND AN ERROR THAT IS NOT nil: a *NumError in a new block N: {Func: "Atoi", Num: s's bytes, Err: what the variable ErrSyntax holds}. Of what was there nothing has turned. (LAID: no walk: one application.) -/
theorem Tryz.strconv_Atoi_syntax (s : ByteArray) (hlim : s.size ≤ 281474976710656) (h : Lib.atoiAll s.data.toList = Go.Lib.NumEnd.syntax) (ev : Value) (w : World) (hv : w.cell? ⟨6, 0, none⟩ = some ev) (hev : ev = .nilIface ∨ ∃ te pe, ev = .iface te pe) :
    Calls Tryz.prog 231 #[.string s] w fun e w' => ∃ N, e = .returned (.tuple #[.int .i64 (0), .iface 301 (.pointer (some ⟨N, 0, none⟩))]) ∧ w.heap.size ≤ N ∧ w'.heap[N]? = some (.cells #[.string ⟨#[65, 116, 111, 105]⟩, .string s, ev] 308 (0, 0)) ∧ Below w.heap.size w w' := Any.strconv_Atoi_syntax Tryz.laysC172 s hlim h ev w hv hev
open Go.RowKit in
/-- strconv.Atoi, AT EVERY NUMERAL THAT NO int HOLDS ('.range'): THE GREATEST OR THE LEAST int, BY THE SIGN ('Lib.atoiSat'), AND AN ERROR THAT IS NOT nil: a *NumError in a new block N: {Func: "Atoi", Num: s's bytes, Err: what the variable ErrRange holds}. Of what was there nothing has turned. (LAID: no walk: one application.) -/
theorem Tryz.strconv_Atoi_range (s : ByteArray) (hlim : s.size ≤ 281474976710656) (h : Lib.atoiAll s.data.toList = .range) (ev : Value) (w : World) (hv : w.cell? ⟨7, 0, none⟩ = some ev) (hev : ev = .nilIface ∨ ∃ te pe, ev = .iface te pe) :
    Calls Tryz.prog 231 #[.string s] w fun e w' => ∃ N, e = .returned (.tuple #[.int .i64 (Lib.atoiSat s.data.toList), .iface 301 (.pointer (some ⟨N, 0, none⟩))]) ∧ w.heap.size ≤ N ∧ w'.heap[N]? = some (.cells #[.string ⟨#[65, 116, 111, 105]⟩, .string s, ev] 308 (0, 0)) ∧ Below w.heap.size w w' := Any.strconv_Atoi_range Tryz.laysC172 s hlim h ev w hv hev
def Tryz.lays144_ren : Go.Shelf.Ren := ⟨fun | 144 => 172 | 143 => 194 | 219 => 217 | 217 => 225 | 225 => 226 | 224 => 227 | 267 => 228 | 266 => 233 | 314 => 234 | n => n, fun | 9 => 9 | 4 => 4 | 3 => 3 | 5 => 5 | 46 => 121 | 146 => 291 | 51 => 185 | n => n, fun | 1 => 5 | n => n⟩
theorem Tryz.lays144 : Go.Proofs.Lays.n144 Tryz.prog Tryz.lays144_ren := {
  mixed := by kernel_rfl
  f143 := Tryz.func194.trans (congrArg some (by kernel_rfl))
  f144 := Tryz.func172.trans (congrArg some (by kernel_rfl))
  f217 := Tryz.func225.trans (congrArg some (by kernel_rfl))
  f219 := Tryz.func217.trans (congrArg some (by kernel_rfl))
  f224 := Tryz.func227.trans (congrArg some (by kernel_rfl))
  f225 := Tryz.func226.trans (congrArg some (by kernel_rfl))
  f266 := Tryz.func233.trans (congrArg some (by kernel_rfl))
  f267 := Tryz.func228.trans (congrArg some (by kernel_rfl))
  f314 := Tryz.func234.trans (congrArg some (by kernel_rfl))
  t3 := Tryz.underlying3
  a3 := Tryz.isAgg3
  z3 := Tryz.sizeOf3
  v3 := Tryz.zeroValue3
  t4 := Tryz.underlying4
  a4 := Tryz.isAgg4
  z4 := Tryz.sizeOf4
  v4 := Tryz.zeroValue4
  t5 := Tryz.underlying5
  a5 := Tryz.isAgg5
  z5 := Tryz.sizeOf5
  v5 := Tryz.zeroValue5
  t9 := Tryz.underlying9
  a9 := Tryz.isAgg9
  z9 := Tryz.sizeOf9
  v9 := Tryz.zeroValue9
  t46 := Tryz.underlying121
  a46 := Tryz.isAgg121
  z46 := Tryz.sizeOf121
  v46 := Tryz.zeroValue121
  t51 := Tryz.underlying185
  a51 := Tryz.isAgg185
  z51 := Tryz.sizeOf185
  v51 := Tryz.zeroValue185
  t146 := Tryz.underlying291
  a146 := Tryz.isAgg291
  z146 := Tryz.sizeOf291
  v146 := Tryz.zeroValue291
  g1 := by kernel_rfl }
open Go.RowKit Go.Lib in
/-- strings.Contains: "Contains reports whether substr is within s.": IT RETURNS 'Lib.contains s substr'; the world is as it was. (LAID: no walk: one application.) -/
theorem Tryz.strings_Contains (s sub : ByteArray) (m : Int) (w : World) (hs : s.size < 4294967281) (hm : w.cell? ⟨5, 0, none⟩ = some (.int .i64 m)) :
    Calls Tryz.prog 172 #[.string s, .string sub] w fun e w' => e = .returned (.bool (Lib.contains s.data.toList sub.data.toList)) ∧ w' = w := Any.strings_Contains Tryz.lays144 s sub m w hs hm
def Tryz.lays190_ren : Go.Shelf.Ren := ⟨fun | 190 => 30 | 125 => 58 | 258 => 57 | 128 => 101 | 129 => 102 | 302 => 92 | 303 => 93 | 304 => 94 | 305 => 95 | 306 => 96 | 307 => 97 | 308 => 98 | 309 => 99 | 310 => 100 | 333 => 133 | 329 => 134 | 330 => 135 | 334 => 136 | 335 => 137 | 336 => 138 | 344 => 179 | n => n, fun | 31 => 30 | 9 => 9 | 3 => 3 | 46 => 121 | 0 => 0 | 51 => 185 | 53 => 187 | 4 => 4 | 183 => 177 | 182 => 176 | 131 => 182 | 5 => 5 | 218 => 220 | 222 => 224 | 228 => 249 | 229 => 250 | n => n, fun | n => n⟩
theorem Tryz.lays190 : Go.Proofs.Lays.n190 Tryz.prog Tryz.lays190_ren := {
  mixed := by kernel_rfl
  f125 := Tryz.func58.trans (congrArg some (by kernel_rfl))
  f128 := Tryz.func101.trans (congrArg some (by kernel_rfl))
  f129 := Tryz.func102.trans (congrArg some (by kernel_rfl))
  f190 := Tryz.func30.trans (congrArg some (by kernel_rfl))
  f258 := Tryz.func57.trans (congrArg some (by kernel_rfl))
  f302 := Tryz.func92.trans (congrArg some (by kernel_rfl))
  f303 := Tryz.func93.trans (congrArg some (by kernel_rfl))
  f304 := Tryz.func94.trans (congrArg some (by kernel_rfl))
  f305 := Tryz.func95.trans (congrArg some (by kernel_rfl))
  f306 := Tryz.func96.trans (congrArg some (by kernel_rfl))
  f307 := Tryz.func97.trans (congrArg some (by kernel_rfl))
  f308 := Tryz.func98.trans (congrArg some (by kernel_rfl))
  f309 := Tryz.func99.trans (congrArg some (by kernel_rfl))
  f310 := Tryz.func100.trans (congrArg some (by kernel_rfl))
  f329 := Tryz.func134.trans (congrArg some (by kernel_rfl))
  f330 := Tryz.func135.trans (congrArg some (by kernel_rfl))
  f333 := Tryz.func133.trans (congrArg some (by kernel_rfl))
  f334 := Tryz.func136.trans (congrArg some (by kernel_rfl))
  f335 := Tryz.func137.trans (congrArg some (by kernel_rfl))
  f336 := Tryz.func138.trans (congrArg some (by kernel_rfl))
  f344 := Tryz.func179.trans (congrArg some (by kernel_rfl))
  t0 := Tryz.underlying0
  a0 := Tryz.isAgg0
  z0 := Tryz.sizeOf0
  v0 := Tryz.zeroValue0
  t3 := Tryz.underlying3
  a3 := Tryz.isAgg3
  z3 := Tryz.sizeOf3
  v3 := Tryz.zeroValue3
  t4 := Tryz.underlying4
  a4 := Tryz.isAgg4
  z4 := Tryz.sizeOf4
  v4 := Tryz.zeroValue4
  t5 := Tryz.underlying5
  a5 := Tryz.isAgg5
  z5 := Tryz.sizeOf5
  v5 := Tryz.zeroValue5
  t9 := Tryz.underlying9
  a9 := Tryz.isAgg9
  z9 := Tryz.sizeOf9
  v9 := Tryz.zeroValue9
  t31 := Tryz.underlying30
  a31 := Tryz.isAgg30
  z31 := Tryz.sizeOf30
  v31 := Tryz.zeroValue30
  t46 := Tryz.underlying121
  a46 := Tryz.isAgg121
  z46 := Tryz.sizeOf121
  v46 := Tryz.zeroValue121
  t51 := Tryz.underlying185
  a51 := Tryz.isAgg185
  z51 := Tryz.sizeOf185
  v51 := Tryz.zeroValue185
  t53 := Tryz.underlying187
  a53 := Tryz.isAgg187
  z53 := Tryz.sizeOf187
  v53 := Tryz.zeroValue187
  t131 := Tryz.underlying182
  a131 := Tryz.isAgg182
  z131 := Tryz.sizeOf182
  v131 := Tryz.zeroValue182
  t182 := Tryz.underlying176
  a182 := Tryz.isAgg176
  z182 := Tryz.sizeOf176
  v182 := Tryz.zeroValue176
  t183 := Tryz.underlying177
  a183 := Tryz.isAgg177
  z183 := Tryz.sizeOf177
  v183 := Tryz.zeroValue177
  t218 := Tryz.underlying220
  a218 := Tryz.isAgg220
  z218 := Tryz.sizeOf220
  v218 := Tryz.zeroValue220
  t222 := Tryz.underlying224
  a222 := Tryz.isAgg224
  z222 := Tryz.sizeOf224
  v222 := Tryz.zeroValue224
  t228 := Tryz.underlying249
  a228 := Tryz.isAgg249
  z228 := Tryz.sizeOf249
  v228 := Tryz.zeroValue249
  t229 := Tryz.underlying250
  a229 := Tryz.isAgg250
  z229 := Tryz.sizeOf250
  v229 := Tryz.zeroValue250 }
open Go.Sort Go.RowKit in
theorem Tryz.slices_Sort_string (blk off cap : Nat) (ss : List (List UInt8)) (w : World) (hH : Holds encStr w blk off ss.toArray) (hblk : blk < w.heap.size) (hsz : ss.length < 4611686018427387904) :
    Calls Tryz.prog 30 #[.slice (some ⟨blk, off, none⟩) ss.length cap] w fun e w' =>
      e = .returned (.tuple #[]) ∧ ∃ n os, w' = grow (putRow encStr (Sort.ahead w n) blk off (ss.mergeSort fun x y => decide (x ≤ y)).toArray) os := Any.slices_Sort_string Tryz.lays190 blk off cap ss w hH hblk hsz
def Tryz.lays146_ren : Go.Shelf.Ren := ⟨fun | 146 => 221 | 221 => 229 | 268 => 235 | 138 => 236 | 143 => 194 | 195 => 241 | 197 => 242 | 218 => 243 | 219 => 217 | 260 => 249 | 217 => 225 | 225 => 226 | 224 => 227 | 267 => 228 | 266 => 233 | 314 => 234 | n => n, fun | 9 => 9 | 31 => 30 | 3 => 3 | 4 => 4 | 0 => 0 | 105 => 296 | 21 => 21 | 5 => 5 | 46 => 121 | 119 => 279 | 139 => 282 | 138 => 281 | 146 => 291 | 51 => 185 | n => n, fun | 1 => 5 | 3 => 3 | 4 => 4 | n => n⟩
theorem Tryz.lays146 : Go.Proofs.Lays.n146 Tryz.prog Tryz.lays146_ren := {
  mixed := by kernel_rfl
  f138 := Tryz.func236.trans (congrArg some (by kernel_rfl))
  f143 := Tryz.func194.trans (congrArg some (by kernel_rfl))
  f146 := Tryz.func221.trans (congrArg some (by kernel_rfl))
  f195 := Tryz.func241.trans (congrArg some (by kernel_rfl))
  f197 := Tryz.func242.trans (congrArg some (by kernel_rfl))
  f217 := Tryz.func225.trans (congrArg some (by kernel_rfl))
  f218 := Tryz.func243.trans (congrArg some (by kernel_rfl))
  f219 := Tryz.func217.trans (congrArg some (by kernel_rfl))
  f221 := Tryz.func229.trans (congrArg some (by kernel_rfl))
  f224 := Tryz.func227.trans (congrArg some (by kernel_rfl))
  f225 := Tryz.func226.trans (congrArg some (by kernel_rfl))
  f260 := Tryz.func249.trans (congrArg some (by kernel_rfl))
  f266 := Tryz.func233.trans (congrArg some (by kernel_rfl))
  f267 := Tryz.func228.trans (congrArg some (by kernel_rfl))
  f268 := Tryz.func235.trans (congrArg some (by kernel_rfl))
  f314 := Tryz.func234.trans (congrArg some (by kernel_rfl))
  t0 := Tryz.underlying0
  a0 := Tryz.isAgg0
  z0 := Tryz.sizeOf0
  v0 := Tryz.zeroValue0
  t3 := Tryz.underlying3
  a3 := Tryz.isAgg3
  z3 := Tryz.sizeOf3
  v3 := Tryz.zeroValue3
  t4 := Tryz.underlying4
  a4 := Tryz.isAgg4
  z4 := Tryz.sizeOf4
  v4 := Tryz.zeroValue4
  t5 := Tryz.underlying5
  a5 := Tryz.isAgg5
  z5 := Tryz.sizeOf5
  v5 := Tryz.zeroValue5
  t9 := Tryz.underlying9
  a9 := Tryz.isAgg9
  z9 := Tryz.sizeOf9
  v9 := Tryz.zeroValue9
  t21 := Tryz.underlying21
  a21 := Tryz.isAgg21
  z21 := Tryz.sizeOf21
  v21 := Tryz.zeroValue21
  t31 := Tryz.underlying30
  a31 := Tryz.isAgg30
  z31 := Tryz.sizeOf30
  v31 := Tryz.zeroValue30
  t46 := Tryz.underlying121
  a46 := Tryz.isAgg121
  z46 := Tryz.sizeOf121
  v46 := Tryz.zeroValue121
  t51 := Tryz.underlying185
  a51 := Tryz.isAgg185
  z51 := Tryz.sizeOf185
  v51 := Tryz.zeroValue185
  t105 := Tryz.underlying296
  a105 := Tryz.isAgg296
  z105 := Tryz.sizeOf296
  v105 := Tryz.zeroValue296
  t119 := Tryz.underlying279
  a119 := Tryz.isAgg279
  z119 := Tryz.sizeOf279
  t138 := Tryz.underlying281
  a138 := Tryz.isAgg281
  z138 := Tryz.sizeOf281
  v138 := Tryz.zeroValue281
  t139 := Tryz.underlying282
  a139 := Tryz.isAgg282
  z139 := Tryz.sizeOf282
  v139 := Tryz.zeroValue282
  t146 := Tryz.underlying291
  a146 := Tryz.isAgg291
  z146 := Tryz.sizeOf291
  v146 := Tryz.zeroValue291
  g1 := by kernel_rfl
  g3 := by kernel_rfl
  g4 := by kernel_rfl }
open Go.RowKit Go.Lib in
/-- strings.Split. (LAID: no walk: one application.) -/
theorem Tryz.strings_Split (s sep : ByteArray) (m : Int) (w : World) (hs : s.size < 4294967281) (hm : w.cell? ⟨5, 0, none⟩ = some (.int .i64 m)) (h1 : 1 ≤ sep.size) :
    Calls Tryz.prog 221 #[.string s, .string sep] w fun e w' =>
      e = .returned (.slice (some ⟨w.heap.size, 0, none⟩) (Lib.countB s sep + 1) (Lib.countB s sep + 1)) ∧ w' = w.alloc (.cells ((Lib.splitB sep 0 (Lib.countB s sep) s).map Value.string).toArray 9) := Any.strings_Split Tryz.lays146 (by kernel_rfl) s sep m w hs hm h1
def Tryz.lays194_ren : Go.Shelf.Ren := ⟨fun | 194 => 31 | n => n, fun | 31 => 30 | 9 => 9 | 3 => 3 | 4 => 4 | 0 => 0 | n => n, fun | n => n⟩
theorem Tryz.lays194 : Go.Proofs.Lays.n194 Tryz.prog Tryz.lays194_ren := {
  mixed := by kernel_rfl
  f194 := Tryz.func31.trans (congrArg some (by kernel_rfl))
  t0 := Tryz.underlying0
  a0 := Tryz.isAgg0
  z0 := Tryz.sizeOf0
  v0 := Tryz.zeroValue0
  t3 := Tryz.underlying3
  a3 := Tryz.isAgg3
  z3 := Tryz.sizeOf3
  v3 := Tryz.zeroValue3
  t4 := Tryz.underlying4
  a4 := Tryz.isAgg4
  z4 := Tryz.sizeOf4
  v4 := Tryz.zeroValue4
  t9 := Tryz.underlying9
  a9 := Tryz.isAgg9
  z9 := Tryz.sizeOf9
  v9 := Tryz.zeroValue9
  t31 := Tryz.underlying30
  a31 := Tryz.isAgg30
  z31 := Tryz.sizeOf30
  v31 := Tryz.zeroValue30 }
open Go.RowKit Go.Lib Go.Sort in
/-- slices.Compact at []string: "Compact replaces consecutive runs of equal elements with a single copy. This is like the uniq command found on Unix. Compact modifies the contents of the slice s and returns the modified slice, which may have a smaller length. Compact zeroes the elements between the new length and the original length. The result preserves the nilness of s.": IT RETURNS THE SLICE CUT TO 'Lib.compact zs'; ITS CELLS HOLD 'Lib.compact zs', THEN ZERO VALUES up to the old length; all else is as it was, but for the count of draws. IN THE WORDS OF slices.Sort's CONTRACT ('Holds', 'putRow'): so the everyday 'slices.Sort(xs); xs = slices.Compact(xs)' goes from the one contract to the other. It asks 'zs.length ≤ cap' (every slice's: the reslicing 's[:k]' looks at it). Length 0, nil: '.._empty'. (LAID: no walk: one application.) -/
theorem Tryz.slices_Compact_string (blk off cap : Nat) (zs : List (List UInt8)) (w : World) (hH : Holds encStr w blk off zs.toArray) (hsz : zs.length ≤ 9223372036854775807) (hcap : zs.length ≤ cap) :
    Calls Tryz.prog 31 #[.slice (some ⟨blk, off, none⟩) zs.length cap] w fun e w' => e = .returned (.slice (some ⟨blk, off, none⟩) (Lib.compact zs).length cap) ∧ ∃ q, w' = putRow encStr (Sort.ahead w q) blk off (Lib.compact zs ++ List.replicate (zs.length - (Lib.compact zs).length) []).toArray := Any.slices_Compact_string Tryz.lays194 blk off cap zs w hH hsz hcap
open Go.RowKit Go.Lib Go.Sort in
/-- The same at a slice of length 0, a nil one too: it comes back as it is. (LAID: no walk: one application.) -/
theorem Tryz.slices_Compact_string_empty (a : Option Addr) (cap : Nat) (w : World) :
    Calls Tryz.prog 31 #[.slice a 0 cap] w fun e w' => e = .returned (.slice a 0 cap) ∧ w' = w := Any.slices_Compact_string_empty Tryz.lays194 a cap w
def Tryz.laysNm224_ren : Go.Shelf.Ren := ⟨fun | 24 => 66 | n => n, fun | 24 => 30 | 9 => 9 | 3 => 3 | 4 => 4 | 0 => 0 | n => n, fun | n => n⟩
theorem Tryz.laysNm224 : Go.Proofs.Lays2.n24 Tryz.prog Tryz.laysNm224_ren := {
  mixed := by kernel_rfl
  f24 := Tryz.func66.trans (congrArg some (by kernel_rfl))
  t0 := Tryz.underlying0
  a0 := Tryz.isAgg0
  z0 := Tryz.sizeOf0
  v0 := Tryz.zeroValue0
  t3 := Tryz.underlying3
  a3 := Tryz.isAgg3
  z3 := Tryz.sizeOf3
  v3 := Tryz.zeroValue3
  t4 := Tryz.underlying4
  a4 := Tryz.isAgg4
  z4 := Tryz.sizeOf4
  v4 := Tryz.zeroValue4
  t9 := Tryz.underlying9
  a9 := Tryz.isAgg9
  z9 := Tryz.sizeOf9
  v9 := Tryz.zeroValue9
  t24 := Tryz.underlying30
  a24 := Tryz.isAgg30
  z24 := Tryz.sizeOf30
  v24 := Tryz.zeroValue30
  i9 := by kernel_rfl }
open Go.RowKit Go.Lib Go.Sort in
/-- slices.Delete at []string: "Delete modifies s in place by removing the elements s[i:j], and returns the modified slice. Delete panics if j > len(s) or s[i:j] is not a valid slice of s. Delete is O(len(s)-i), so if many items must be deleted, it is better to make a single call deleting them all together than to delete one at a time. Delete zeroes the elements s[len(s)-(j-i):len(s)]. If the result is empty, it has the same nilness as s.": FOR i ≤ j ≤ len(s) IT RETURNS THE SLICE CUT TO len(s) - (j - i) ELEMENTS; ITS CELLS HOLD what stood ahead of i, what stood from j on, then j - i zero values; all else is as it was, but for the count of draws. IN THE WORDS OF slices.Sort's CONTRACT ('Holds', 'putRow'). It asks 'zs.length ≤ cap ≤ 2^63 - 1' (every slice's). (Outside i ≤ j ≤ len(s) it panics: no contract here.) (LAID: no walk: one application.) -/
theorem Tryz.slices_Delete_string (blk off cap i j : Nat) (zs : List (List UInt8)) (w : World) (hH : Holds encStr w blk off zs.toArray) (hcap : zs.length ≤ cap) (hm : cap ≤ 9223372036854775807) (hij : i ≤ j) (hj : j ≤ zs.length) :
    Calls Tryz.prog 66 #[.slice (some ⟨blk, off, none⟩) zs.length cap, .int .i64 i, .int .i64 j] w fun e w' => e = .returned (.slice (some ⟨blk, off, none⟩) (zs.length - (j - i)) cap) ∧ ∃ q, w' = putRow encStr (Sort.ahead w q) blk off (zs.take i ++ zs.drop j ++ List.replicate (j - i) []).toArray := Any.slices_Delete_string Tryz.laysNm224 blk off cap i j zs w hH hcap hm hij hj
open Go.RowKit Go.Sort in
/-- .. and plain. (LAID: no walk: one application.) -/
theorem Tryz.slices_Sort_string_none (p : Option Addr) (cap : Nat) (w : World) :
    Calls Tryz.prog 30 #[.slice p 0 cap] w fun e w' => e = .returned (.tuple #[]) ∧ w' = w := Any.slices_Sort_string_none Tryz.lays190 p cap w
def Tryz.lays196_ren : Go.Shelf.Ren := ⟨fun | 196 => 200 | 259 => 223 | n => n, fun | 9 => 9 | 4 => 4 | 3 => 3 | 5 => 5 | 12 => 12 | 119 => 279 | 0 => 0 | 46 => 121 | 139 => 282 | 138 => 281 | 53 => 187 | n => n, fun | 3 => 3 | 4 => 4 | n => n⟩
theorem Tryz.lays196 : Go.Proofs.Lays.n196 Tryz.prog Tryz.lays196_ren := {
  mixed := by kernel_rfl
  f196 := Tryz.func200.trans (congrArg some (by kernel_rfl))
  f259 := Tryz.func223.trans (congrArg some (by kernel_rfl))
  t0 := Tryz.underlying0
  a0 := Tryz.isAgg0
  z0 := Tryz.sizeOf0
  v0 := Tryz.zeroValue0
  t3 := Tryz.underlying3
  a3 := Tryz.isAgg3
  z3 := Tryz.sizeOf3
  v3 := Tryz.zeroValue3
  t4 := Tryz.underlying4
  a4 := Tryz.isAgg4
  z4 := Tryz.sizeOf4
  v4 := Tryz.zeroValue4
  t5 := Tryz.underlying5
  a5 := Tryz.isAgg5
  z5 := Tryz.sizeOf5
  v5 := Tryz.zeroValue5
  t9 := Tryz.underlying9
  a9 := Tryz.isAgg9
  z9 := Tryz.sizeOf9
  v9 := Tryz.zeroValue9
  t12 := Tryz.underlying12
  a12 := Tryz.isAgg12
  z12 := Tryz.sizeOf12
  v12 := Tryz.zeroValue12
  t46 := Tryz.underlying121
  a46 := Tryz.isAgg121
  z46 := Tryz.sizeOf121
  v46 := Tryz.zeroValue121
  t53 := Tryz.underlying187
  a53 := Tryz.isAgg187
  z53 := Tryz.sizeOf187
  v53 := Tryz.zeroValue187
  t119 := Tryz.underlying279
  a119 := Tryz.isAgg279
  z119 := Tryz.sizeOf279
  t138 := Tryz.underlying281
  a138 := Tryz.isAgg281
  z138 := Tryz.sizeOf281
  v138 := Tryz.zeroValue281
  t139 := Tryz.underlying282
  a139 := Tryz.isAgg282
  z139 := Tryz.sizeOf282
  v139 := Tryz.zeroValue282
  g3 := by kernel_rfl
  g4 := by kernel_rfl }
def Tryz.sorted59_ren : Go.Shelf.Ren := ⟨fun | 6 => 59 | 8 => 103 | 9 => 30 | 11 => 139 | 13 => 58 | 12 => 57 | 23 => 101 | 24 => 102 | 14 => 92 | 15 => 93 | 16 => 94 | 17 => 95 | 18 => 96 | 19 => 97 | 20 => 98 | 21 => 99 | 22 => 100 | 25 => 133 | 26 => 134 | 27 => 135 | 28 => 136 | 29 => 137 | 30 => 138 | 31 => 179 | n => n, fun | 26 => 9 | 28 => 124 | 24 => 30 | 0 => 0 | 3 => 3 | 37 => 121 | 48 => 185 | 50 => 187 | 4 => 4 | 40 => 177 | 39 => 176 | 45 => 182 | 5 => 5 | 9 => 9 | 51 => 220 | 55 => 224 | 57 => 249 | 58 => 250 | 33 => 130 | n => n, fun | n => n⟩
theorem Tryz.sorted59 : Go.Proofs.SlLaysZ.n6 Tryz.prog Tryz.sorted59_ren := {
  mixed := by kernel_rfl
  f6 := ⟨Tryz.f59.name, by decide, Tryz.func59.trans (congrArg some (by kernel_rfl))⟩
  f8 := ⟨Tryz.f103.name, by decide, Tryz.func103.trans (congrArg some (by kernel_rfl))⟩
  f11 := ⟨Tryz.f139.name, by decide, Tryz.func139.trans (congrArg some (by kernel_rfl))⟩
  t0 := Tryz.underlying0
  a0 := Tryz.isAgg0
  z0 := Tryz.sizeOf0
  v0 := Tryz.zeroValue0
  t24 := Tryz.underlying30
  a24 := Tryz.isAgg30
  z24 := Tryz.sizeOf30
  v24 := Tryz.zeroValue30
  t26 := Tryz.underlying9
  a26 := Tryz.isAgg9
  z26 := Tryz.sizeOf9
  v26 := Tryz.zeroValue9
  t28 := Tryz.underlying124
  a28 := Tryz.isAgg124
  z28 := Tryz.sizeOf124
  v28 := Tryz.zeroValue124
  i26 := by kernel_rfl }
end Go.Proofs
end
section
namespace Go.Fl
open Go Go.Proofs Go.RowKit Go.Maps Go.Sort Go.Shelf
variable {P : Program} {ρ : Ren}
/-- An iterator value that gives ss to each loop whose rounds leave alone what lay before w. -/
def GivesTo (F : Fence) (n : Nat) (P : Program) (g : Nat) (lb : Array Value) (ss : List (List UInt8)) (w : World) : Prop :=
  ∀ (l : Nat) (J : List (List UInt8) → World → Prop) (W : World), Below w.heap.size w W → AbidesFrom W.heap.size J → (∀ pre W1, J pre W1 → Below w.heap.size w W1) →
    (∀ pre x W1, J pre W1 → pre.length < ss.length → YieldAt F (n - 1) P l #[encStr x] W1 fun e W' => e = .returned (.bool true) ∧ J (pre ++ [x]) W' ∧ KeepsWalks W1 W') →
    J [] W → CallsIn F n P g (#[.func (.yield l) #[] #[]] ++ lb) W fun e W' => (∃ v, e = .returned v) ∧ J ss W'
/-- An owned row and another block: an object that is no cells of its elements' type. -/
theorem row_beside {W : World} {base j : Nat} {e : TypeId} {v : Value} {k : Nat} {xs : List Value} {o : Obj} (h : W.ownsRow base e 1 v k xs) (hj : W.heap[j]? = some o) (hno : ∀ cur, o ≠ .cells cur e (0, 0)) (o' : Obj) : (W.putObj j o').ownsRow base e 1 v k xs :=
  h.kept (grownBy_putObj_a W j o') (ownsRow_ne_a h hj hno)
set_option maxRecDepth 100000 in
set_option maxHeartbeats 2000000 in
theorem appendSeq_gives (L : SlLaysZ.n11 P ρ) (F : Fence) (n : Nat) (hf : F.fn (ρ.f 11)) (hro : F.round = none) (hn : 2 ≤ n) (g : Nat) (lb : Array Value) (hg : F.fn g) (eg : ∀ args w, (callFunc g args).run P w = .ok (.enter g args) w)
    (ss : List (List UInt8)) (hN : ss.length ≤ maxLen) (hNb : ss.length * 16 ≤ 140737488355328) (w : World) (hseq : GivesTo F (n - 1) P g lb ss w) :
    CallsIn F n P (ρ.f 11) #[.slice none 0 0, .func (.func g) #[] lb] w fun e w' => ∃ v, e = .returned v ∧ w'.ownsRow w.heap.size (ρ.t 26) 1 v ss.length (ss.map encStr) ∧ Below w.heap.size w w' := by
  have mixed := L.mixed; have t0 := L.t0; have a0 := L.a0; have z0 := L.z0; have v0 := L.v0; have t24 := L.t24; have a24 := L.a24; have z24 := L.z24; have v24 := L.v24; have t26 := L.t26; have a26 := L.a26; have z26 := L.z26; have v26 := L.v26
  have u0 := run_underlying L.t0; have u24 := run_underlying L.t24; have u26 := run_underlying L.t26
  have apart : ρ.t 24 ≠ ρ.t 26 := fun e => by have h := L.t24; rw [e, L.t26] at h; cases h
  obtain ⟨_, _, body⟩ := L.f11
  refine callsIn_of_wp_marks body rfl hf ?_ hro
  simp only [SlBodyZ.n11_ntmps ρ, List.size_toArray, List.length_cons, List.length_nil, Nat.reduceAdd, Nat.reduceSub, Array.replicate_succ, Array.replicate_zero, List.push_toArray, List.append_toArray, List.nil_append, List.cons_append]
  gi_wp2
  refine wpIn_rangeFunc fun fn hfn => ?_
  rw [hro]
  -- the box, the block of the rounds' deferred calls, the loop's record
  generalize hA : w.alloc (.cells #[.slice none 0 0] (ρ.t 24)) = A
  have sA : A.heap.size = w.heap.size + 1 := by rw [← hA]; simp
  have bA : Below w.heap.size w A := by rw [← hA]; exact (Below.refl _ w).alloc (Nat.le_refl _) _
  have xA : A.heap[w.heap.size]? = some (.cells #[.slice none 0 0] (ρ.t 24) (0, 0)) := by rw [← hA]; exact World.alloc_heap_new w _
  generalize hrec : AnyZ.apRec ρ fn (.func (.func g) #[] lb) w.heap.size A.heap.size .ready none = rec
  generalize hB : (A.alloc (.deferred (some []))).alloc (.loop rec) = B
  have oldB : ∀ k, k < A.heap.size → B.heap[k]? = A.heap[k]? := fun k hk => by rw [← hB]; exact (Below.heap_alloc _ _ k (by simp; omega)).trans (Below.heap_alloc _ _ k hk)
  have bB : Below w.heap.size w B := by rw [← hB]; exact (bA.alloc bA.size _).alloc (by have := bA.size; simp; omega) _
  have dB : B.heap[A.heap.size]? = some (.deferred (some [])) := by rw [← hB]; exact (Below.heap_alloc _ _ _ (by simp)).trans (World.alloc_heap_new A _)
  have lB : B.heap[A.heap.size + 1]? = some (.loop rec) := by rw [← hB]; have := World.alloc_heap_new (A.alloc (.deferred (some []))) (.loop rec); rwa [World.size_alloc] at this
  have start : AnyZ.ApAt ρ w fn (.func (.func g) #[] lb) w.heap.size (A.heap.size + 1) A.heap.size [] B :=
    ⟨⟨_, (oldB _ (by omega)).trans xA, ⟨rfl, .inl ⟨rfl, rfl⟩⟩, by simp⟩, by rw [hrec]; exact lB, dB, bB⟩
  refine ⟨A.heap.size + 1, [{ target := .collected A.heap.size, args := #[] }], B, { target := .fn (.func g) lb, args := #[.func (.yield (A.heap.size + 1)) #[] #[]] }, B, g, #[.func (.yield (A.heap.size + 1)) #[] #[]] ++ lb, B, ?_, ?_, ?_, ?_, fun _ => (by omega), ?_⟩
  · rw [← hB, ← hrec]; exact run_enterLoop_outer _ _ _ _ _
  · simp [resolve, go_sem]
  · intro f' h'; simp [Target.leads] at h'; exact h' ▸ hg
  · simp [invoke, go_sem, eg]
  refine (hseq _ (AnyZ.ApAt ρ w fn (.func (.func g) #[] lb) w.heap.size (A.heap.size + 1) A.heap.size) B bB (AnyZ.ap_abides ρ _ _ _ _ _ _ _ bB.size) (fun _ _ h => h.below)
    (fun pre x W h hl => AnyZ.apYield { L with } F _ w fn hfn _ _ _ _ (by omega) (by omega) (by omega) (Nat.le_refl _) (by omega) ss.length hN hNb pre x W h hl) start).mono ?_
  rintro e C ⟨⟨_, rfl⟩, hC⟩
  obtain ⟨v, hv, hrow, _⟩ := hC.box
  have hend := run_endLoop (P := P) hC.L (by simp [AnyZ.apRec])
  generalize hD : C.putObj (A.heap.size + 1) (.loop { AnyZ.apRec ρ fn (.func (.func g) #[] lb) w.heap.size A.heap.size .ready none with state := .exhausted }) = D at hend
  have rowD : D.ownsRow w.heap.size (ρ.t 26) 1 v ss.length (ss.map encStr) := by rw [← hD]; exact row_beside hrow hC.L (fun _ h => by cases h) _
  have boxD : D.heap[w.heap.size]? = some (.cells #[v] (ρ.t 24) (0, 0)) := by rw [← hD]; exact (World.putObj_heap_other (by omega)).trans hv
  have defD : D.heap[A.heap.size]? = some (.deferred (some [])) := by rw [← hD]; exact (World.putObj_heap_other (by omega)).trans hC.K
  have belD : Below w.heap.size w D := by rw [← hD]; exact hC.below.grown (grownBy_putObj_a _ _ _) hC.below.size (fun k h => by cases h; omega)
  obtain ⟨cellD, markD⟩ := cell_of_box_a boxD
  clear hD
  refine ⟨none, D, hend, ?_⟩
  gi_wp2
  rw [← sA]
  refine ⟨by simp, .inl ⟨_, _, rfl, run_takeDeferred defD, ?_⟩⟩
  exact ⟨_, results_tmp rfl _ _ _, v, rfl, row_beside rowD defD (fun _ h => by cases h) _, belD.grown (grownBy_putObj_a _ _ _) belD.size (fun k h => by cases h; omega)⟩
end Go.Fl
end
