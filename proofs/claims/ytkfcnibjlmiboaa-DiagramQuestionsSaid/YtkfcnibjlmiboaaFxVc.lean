/- What a piece of code makes of plain states: regions, ways, loops, calls. Conditions: none; no memory is in sight. -/
import Derived.Test.YtkfcnibjlmiboaaFxDef
namespace Go.Fx
open Go Go.RowKit Go.Fl Go.Fl.Lk
variable {S : Sig}

/-- What is handed to a call and comes back: a value with the objects that hang on it. -/
inductive Tr (S : Sig) : Type where
  | f (x : FV S)
  | same
  | vec (e : TypeId) (T : S.C) (l : List (S.car T))
  | arr (T : S.C) (N : Nat) (l : List (S.car T))
  | map (K V : S.C) (F : S.car K → Option (S.car V))
  | ptr (ty : TypeId) (l : List (Tr S))
  | agg (l : List (Tr S))
  | el (T : S.C) (x : S.car T)

/-- How an argument is handed over. -/
inductive PK (S : Sig) : Type where
  | v
  | c
  | sl (T : S.C)
  | el (T : S.C)
  | own (e : TypeId) (T : S.C)
  | map (K V : S.C)
  | ptr (ty : TypeId) (l : List (PK S))
  | agg (l : List (PK S))

structure Con (S : Sig) where
  pk : List (PK S)
  m : List (Tr S) → (List (Tr S) → List (Tr S) → Prop) → Prop

/-- A part of a state that ways or rounds change. -/
inductive Kd (S : Sig) : Type where
  | int (k : IntKind)
  | bool
  | str
  | sl (T : S.C)
  | own (e : TypeId) (T : S.C)
  | el (T : S.C)
  | map (K V : S.C)
  | arr (ty : TypeId) (T : S.C) (N : Nat)
  | iter (K V : S.C)
abbrev Kd.ty : Kd S → Type
  | .int _ => Int
  | .bool => Bool
  | .str => ByteArray
  | .sl T => List (S.car T)
  | .own _ T => List (S.car T)
  | .el T => S.car T
  | .map K V => S.car K → Option (S.car V)
  | .arr _ T _ => List (S.car T)
  | .iter K V => (S.car K → Option (S.car V)) × List (S.car K)
inductive Pl where
  | slot (j : Nat)
  | cell (o i : Nat)
  | obj (o : Nat)
abbrev Item (S : Sig) := Pl × Kd S
abbrev HL : List (Item S) → Type
  | [] => Unit
  | i :: l => i.2.ty × HL l

structure Spec (S : Sig) where
  lock : List Nat
  robj : List Nat
  cobj : List (Nat × TypeId × Nat)
  items : List (Item S)

/-- What a walk is given. -/
structure Ev (S : Sig) where
  P : Program
  D : Shp S
  con : Nat → Option (Con S)
  inl : Nat → Bool
  plan : Nat → Option (Spec S)
  base : Nat := 0
def Ev.at (E : Ev S) (b : Nat) : Ev S := { E with base := b }

def slotS (ro : Ro S) (st : AS S) (t : Nat) : SV S := bif hasN ro.lock t then ro.slots t else st.slots t
def obS (ro : Ro S) (st : AS S) (o : Nat) : Option (AO S) :=
  match findN st.objs o with
  | some a => some a
  | none => findN ro.objs o
def evS (n : Nat) (ro : Ro S) (st : AS S) : Operand → SV S
  | .tmp t => bif Nat.blt t n then slotS ro st t else .und
  | .const v => ofConst v
  | .global _ => .dead
  | .func k => .fn k [] []
/-- Looked at, and kept. -/
def forceS (s : SV S) (k : SV S → Prop) : Prop :=
  match s with
  | .f x => k (.f x)
  | .lit b => k (.lit b)
  | .pb p d n => k (.pb p d n)
  | .agg l => k (.agg l)
  | .tup l => k (.tup l)
  | .hnd o => k (.hnd o)
  | .ref o i => k (.ref o i)
  | s => k s
theorem forceS_eq {s : SV S} {k : SV S → Prop} : forceS s k = k s := by cases s <;> rfl
def forceSs : List (SV S) → (List (SV S) → Prop) → Prop
  | [], k => k []
  | s :: l, k => forceS s fun s => forceSs l fun l => k (s :: l)
theorem forceSs_eq : ∀ {l : List (SV S)} {k : List (SV S) → Prop}, forceSs l k = k l
  | [], _ => rfl
  | s :: l, k => by unfold forceSs; rw [forceS_eq, forceSs_eq]
def forceA (a : AO S) (k : AO S → Prop) : Prop :=
  match a with
  | .cells ty l => forceSs l fun l => k (.cells ty l)
  | .vec e T l => k (.vec e T l)
  | .frz T l => k (.frz T l)
  | .map K V F => k (.map K V F)
  | a => k a
theorem forceA_eq {a : AO S} {k : AO S → Prop} : forceA a k = k a := by
  cases a <;> simp only [forceA, forceSs_eq]
def forceO : List (Nat × AO S) → (List (Nat × AO S) → Prop) → Prop
  | [], k => k []
  | (n, a) :: l, k => forceA a fun a => forceO l fun l => k ((n, a) :: l)
theorem forceO_eq : ∀ {l : List (Nat × AO S)} {k : List (Nat × AO S) → Prop}, forceO l k = k l
  | [], _ => rfl
  | (_, _) :: l, _ => by unfold forceO; rw [forceA_eq, forceO_eq]
def putS (ro : Ro S) (st : AS S) (d : Option Nat) (s : SV S) (k : AS S → Prop) : Prop :=
  match d with
  | some d => bif hasN ro.lock d then False else forceS s fun s => k { st with slots := updS st.slots d s }
  | none => k st
def inRw (st : AS S) : List Nat → Bool
  | [] => true
  | o :: l => (findN st.objs o).isSome && inRw st l

/-! Calls. -/
/-- A value that stays: one without memory of the call's own. -/
def toC : SV S → Option (FV S)
  | .f x => some x
  | .lit b => some (.bool b)
  | .pb p d false => some (.bool (@decide p d))
  | .pb p d true => some (.bool (!@decide p d))
  | _ => none
def gathV (ob : Nat → Option (AO S)) : SV S → Option (Tr S × List Nat × List Nat)
  | .agg l => match toFs ob l with
    | some (xs, b) => some (.agg (xs.map Tr.f), [], b)
    | none => none
  | .arr T N l => some (.arr T N l, [], [])
  | s => match toF ob s with
    | some (x, b) => some (.f x, [], b)
    | none => none
/-- A list that is handed over to be read. -/
def gathS (ob : Nat → Option (AO S)) (T : S.C) (s : SV S) : Option (Tr S × List Nat × List Nat) :=
  match s with
  | .f .nils => some (.f (.sl T []), [], [])
  | s => match toF ob s with
    | some (.sl T' l, b) => (match S.dec T' T with
      | isTrue h => some (.f (.sl T (h ▸ l)), [], b)
      | isFalse _ => none)
    | _ => none
/-- A struct that is handed over. -/
def gathE (D : Shp S) (ob : Nat → Option (AO S)) (T : S.C) (s : SV S) : Option (Tr S × List Nat × List Nat) :=
  match s with
  | .agg l => (match toFs ob l with
    | some (xs, b) => (match D.bld T xs with
      | some x => some (.el T x, [], b)
      | none => none)
    | none => none)
  | _ => none
mutual
def gath (D : Shp S) (ob : Nat → Option (AO S)) (lkc : Nat → Nat → SV S) : PK S → SV S → Option (Tr S × List Nat × List Nat)
  | .v, s => gathV ob s
  | .sl T, s => gathS ob T s
  | .el T, s => gathE D ob T s
  | .c, s => (toC s).map fun x => (.f x, [], [])
  | .own e T, s => match ownQ e T ob s with
    | some (a, l) => some (.vec e T l, a, [])
    | none => none
  | .map K V, s => match s with
    | .hnd o => match ob o with
      | some (.map K' V' F) => match S.dec K' K, S.dec V' V with
        | isTrue h, isTrue h' => some (.map K V (h ▸ h' ▸ F), [o], [])
        | _, _ => none
      | _ => none
    | _ => none
  | .ptr ty pk, s => match s with
    | .ref o 0 => match ob o with
      | some (.cells ty' l) => bif Nat.beq ty ty' then (match gaths D ob lkc pk (resL (lkc o) 0 l) with
        | some (ts, a, b) => some (.ptr ty ts, o :: a, b)
        | none => none) else none
      | _ => none
    | _ => none
  | .agg pk, s => match s with
    | .agg l => match gaths D ob lkc pk l with
      | some (ts, a, b) => some (.agg ts, a, b)
      | none => none
    | _ => none
def gaths (D : Shp S) (ob : Nat → Option (AO S)) (lkc : Nat → Nat → SV S) : List (PK S) → List (SV S) → Option (List (Tr S) × List Nat × List Nat)
  | [], [] => some ([], [], [])
  | p :: pk, s :: l => match gath D ob lkc p s, gaths D ob lkc pk l with
    | some (t, a, b), some (ts, a', b') => some (t :: ts, a ++ a', b ++ b')
    | _, _ => none
  | _, _ => none
end

/-! What comes back through the arguments: the parts that stay are left out. 'os' is what there was first. -/
mutual
def back (ob os : Nat → Option (AO S)) (lkc : Nat → Nat → SV S) : PK S → SV S → SV S → SV S → Option (Tr S × List Nat × List Nat)
  | .v, _, _, s => gathV ob s
  | .sl T, _, _, s => gathS ob T s
  | .el _, _, _, _ => none
  | .c, i, o, _ => match i, o with
    | .f _, .lk => some (.same, [], [])
    | _, _ => none
  | .own e T, _, _, s => match ownQ e T ob s with
    | some (a, l) => some (.vec e T l, a, [])
    | none => none
  | .map K V, i, _, s => match i, s with
    | .hnd o', .hnd o => bif Nat.beq o' o then (match ob o with
      | some (.map K' V' F) => match S.dec K' K, S.dec V' V with
        | isTrue h, isTrue h' => some (.map K V (h ▸ h' ▸ F), [o], [])
        | _, _ => none
      | _ => none) else none
    | _, _ => none
  | .ptr ty pk, i, _, s => match i, s with
    | .ref o' 0, .ref o 0 => bif Nat.beq o' o then (match os o, ob o with
      | some (.cells _ l0), some (.cells ty' l) => bif Nat.beq ty ty' then (match backs ob os lkc pk l0 l (resL (lkc o) 0 l) with
        | some (ts, a, b) => some (.ptr ty ts, o :: a, b)
        | none => none) else none
      | _, _ => none) else none
    | _, _ => none
  | .agg _, _, _, _ => none
def backs (ob os : Nat → Option (AO S)) (lkc : Nat → Nat → SV S) : List (PK S) → List (SV S) → List (SV S) → List (SV S) → Option (List (Tr S) × List Nat × List Nat)
  | [], [], [], [] => some ([], [], [])
  | p :: pk, i :: is, o :: l, s :: l' => match back ob os lkc p i o s, backs ob os lkc pk is l l' with
    | some (t, a, b), some (ts, a', b') => some (t :: ts, a ++ a', b ++ b')
    | _, _ => none
  | _, _, _, _ => none
end
/-- Which arguments come back. -/
def backT (ob os : Nat → Option (AO S)) (lkc : Nat → Nat → SV S) : List (PK S) → List (SV S) → Option (List (Tr S) × List Nat × List Nat)
  | [], [] => some ([], [], [])
  | .map K V :: pk, s :: l => match back ob os lkc (.map K V) s .dead s, backT ob os lkc pk l with
    | some (t, a, b), some (ts, a', b') => some (t :: ts, a ++ a', b ++ b')
    | _, _ => none
  | .ptr ty k :: pk, s :: l => match back ob os lkc (.ptr ty k) s .dead s, backT ob os lkc pk l with
    | some (t, a, b), some (ts, a', b') => some (t :: ts, a ++ a', b ++ b')
    | _, _ => none
  | _ :: pk, _ :: l => match backT ob os lkc pk l with
    | some (ts, a, b) => some (.same :: ts, a, b)
    | none => none
  | _, _ => none

/-! What is handed over becomes part of a state, under new names. -/
mutual
def inst (D : Shp S) : Tr S → Nat → Option (SV S × List (Nat × AO S) × Nat)
  | .f x, nx => some (.f x, [], nx)
  | .same, _ => none
  | .vec e T l, nx => some (.hnd nx, [(nx, .vec e T l)], nx + 1)
  | .arr T N l, nx => some (.arr T N l, [], nx)
  | .map K V F, nx => some (.hnd nx, [(nx, .map K V F)], nx + 1)
  | .ptr ty ts, nx => match insts D ts (nx + 1) with
    | some (cs, os, nx') => some (.ref nx 0, (nx, .cells ty cs) :: os, nx')
    | none => none
  | .el T x, nx => some (.agg ((D.shape T x).map SV.f), [], nx)
  | .agg ts, nx => match insts D ts nx with
    | some (cs, os, nx') => some (.agg cs, os, nx')
    | none => none
def insts (D : Shp S) : List (Tr S) → Nat → Option (List (SV S) × List (Nat × AO S) × Nat)
  | [], nx => some ([], [], nx)
  | t :: ts, nx => match inst D t nx with
    | some (s, a, nx') => match insts D ts nx' with
      | some (r, b, nx'') => some (s :: r, a ++ b, nx'')
      | none => none
    | none => none
end
/-! What comes back from a call: what was handed in keeps its name. -/
mutual
def upd1 (ob : Nat → Option (AO S)) (lkc : Nat → Nat → SV S) : PK S → SV S → SV S → Tr S → Nat → Option (SV S × List (Nat × AO S) × Nat)
  | .c, o, s, t, nx => match t with
    | .same => match o with
      | .lk => some (.lk, [], nx)
      | _ => (toC s).map fun x => (.f x, [], nx)
    | _ => none
  | .v, o, _, t, nx => match o, t with
    | .lk, _ => none
    | _, .f x => some (.f x, [], nx)
    | _, _ => none
  | .sl _, o, _, t, nx => match o, t with
    | .lk, _ => none
    | _, .f x => some (.f x, [], nx)
    | _, _ => none
  | .el _, _, _, _, _ => none
  | .own _ _, o, _, t, nx => match o, t with
    | .lk, _ => none
    | _, .vec e T l => some (.hnd nx, [(nx, .vec e T l)], nx + 1)
    | _, _ => none
  | .map _ _, o, s, t, nx => match s, t with
    | .hnd n, .map K V F => some (match o with | .lk => .lk | _ => .hnd n, [(n, .map K V F)], nx)
    | _, _ => none
  | .ptr _ pk, o, s, t, nx => match s, t with
    | .ref n 0, .ptr ty ts => match ob n with
      | some (.cells _ l) => match upds ob lkc pk l (resL (lkc n) 0 l) ts nx with
        | some (cs, os, nx') => some (match o with | .lk => .lk | _ => .ref n 0, (n, .cells ty cs) :: os, nx')
        | none => none
      | _ => none
    | _, _ => none
  | .agg _, _, _, _, _ => none
def upds (ob : Nat → Option (AO S)) (lkc : Nat → Nat → SV S) : List (PK S) → List (SV S) → List (SV S) → List (Tr S) → Nat → Option (List (SV S) × List (Nat × AO S) × Nat)
  | [], [], [], [], nx => some ([], [], nx)
  | p :: pk, o :: l, s :: l', t :: ts, nx => match upd1 ob lkc p o s t nx with
    | some (s, a, nx') => match upds ob lkc pk l l' ts nx' with
      | some (r, b, nx'') => some (s :: r, a ++ b, nx'')
      | none => none
    | none => none
  | _, _, _, _, _ => none
end
/-- The arguments that come back. -/
def updT (ob : Nat → Option (AO S)) (lkc : Nat → Nat → SV S) : List (PK S) → List (SV S) → List (Tr S) → Nat → Option (List (Nat × AO S) × Nat)
  | [], [], [], nx => some ([], nx)
  | .map K V :: pk, s :: l, t :: ts, nx => match upd1 ob lkc (.map K V) s s t nx with
    | some (_, a, nx') => match updT ob lkc pk l ts nx' with
      | some (b, nx'') => some (a ++ b, nx'')
      | none => none
    | none => none
  | .ptr ty k :: pk, s :: l, t :: ts, nx => match upd1 ob lkc (.ptr ty k) s s t nx with
    | some (_, a, nx') => match updT ob lkc pk l ts nx' with
      | some (b, nx'') => some (a ++ b, nx'')
      | none => none
    | none => none
  | _ :: pk, _ :: l, t :: ts, nx => match t with
    | .same => updT ob lkc pk l ts nx
    | _ => none
  | _, _, _, _ => none
def tupS : List (SV S) → SV S
  | [s] => s
  | l => .tup l

def nodupQ : List Nat → Bool
  | [] => true
  | a :: l => !hasN l a && nodupQ l

/-- A call of a function whose contract is known. -/
def callC (D : Shp S) (c : Con S) (ro : Ro S) (st : AS S) (full : List (SV S)) (ban : List Nat → Bool) (k : AS S → SV S → Prop) : Prop :=
  optK (gaths D (obS ro st) ro.cell c.pk full) fun q => optK (frzs (obS ro st) q.2.2) fun fz =>
    bif nodupQ (q.2.1 ++ q.2.2) && inRw st (q.2.1 ++ q.2.2) && ban (q.2.1 ++ q.2.2) then
      c.m q.1 fun rets outs => optK (updT (obS ro st) ro.cell c.pk full outs st.next) fun a => optK (insts D rets a.2) fun r =>
        forceO (r.2.1 ++ (a.1 ++ (fz ++ delNs st.objs (q.2.1 ++ q.2.2)))) fun os => k { slots := st.slots, objs := os, next := r.2.2 } (tupS r.1)
    else False

/-! Operations. -/
def isEff (ob : Nat → Option (AO S)) (e : Operand → SV S) : Op → Bool
  | .alloc _ => true
  | .box _ _ => true
  | .store _ _ _ => true
  | .makeMap _ _ => true
  | .mapUpdate _ _ _ _ => true
  | .buildSlice _ _ _ => true
  | .makeSlice _ _ _ => true
  | .call ⟨.builtin .append, _, _⟩ => true
  | .range _ _ => true
  | .next _ _ => true
  | .slice _ x none (some _) none => match e x with
    | .hnd o => match ob o with
      | some (.vec _ _ _) => true
      | _ => false
    | _ => false
  | _ => false
def isCall : Op → Bool
  | .call ⟨.value _, _, _⟩ => true
  | _ => false

/-- Into a function's own text. -/
abbrev InlH (S : Sig) := Nat → List (SV S) → Ro S → AS S → (AS S → SV S → Prop) → Prop

def stepS (E : Ev S) (inlh : InlH S) (n : Nat) (ro : Ro S) (st : AS S) (ban : List Nat → Bool) (o : Oper) (k : List Nat → AS S → Prop) : Prop :=
  match o.op with
  | .call ⟨.value f, args, _⟩ => (match evS n ro st f with
    | .fn g first cap => (match E.con g with
      | some c => callC E.D c ro st (first ++ args.toList.map (evS n ro st) ++ cap) ban fun st s => putS ro st o.dst s (k [])
      | none => bif E.inl g && ban ((st.objs ++ ro.objs).map (·.1)) then inlh g (first ++ args.toList.map (evS n ro st) ++ cap) ro st fun st s => putS ro st o.dst s (k []) else False)
    | _ => False)
  | op => bif isEff (obS ro st) (evS n ro st) op then
      effOp E.P E.D (evS n ro st) (obS ro st) st.next op fun tl outs sv => bif inRw st tl && ban tl then
        (match sv with
        | some s => forceO (outs ++ delNs st.objs tl) fun os => putS ro { slots := st.slots, objs := os, next := st.next + 1 } o.dst s (k [])
        | none => bif o.dst.isNone then forceO (outs ++ delNs st.objs tl) fun os => k [] { slots := st.slots, objs := os, next := st.next + 1 } else False) else False
    else pureOp E.P E.D (evS n ro st) (obS ro st) ro.cell op fun rd s => putS ro st o.dst s (k rd)

/-- A guard. -/
def guardS (n : Nat) (ro : Ro S) (ops : Array Oper) (st : AS S) (o : Oper) (yes no : AS S → Prop) : Prop :=
  match o.guard with
  | none => yes st
  | some (j, want) => match (ops[j]?).bind (·.dst) with
    | none => False
    | some d => match evS n ro st (.tmp d) with
      | .lit b => bif b == want then yes st else no st
      | .und => no st
      | .f (.bool b) => Cnd (b = true) (bif want then yes { st with slots := updS st.slots d (.lit true) } else no { st with slots := updS st.slots d (.lit true) })
          (bif want then no { st with slots := updS st.slots d (.lit false) } else yes { st with slots := updS st.slots d (.lit false) })
      | .pb p _ false => Cnd p (bif want then yes { st with slots := updS st.slots d (.lit true) } else no { st with slots := updS st.slots d (.lit true) })
          (bif want then no { st with slots := updS st.slots d (.lit false) } else yes { st with slots := updS st.slots d (.lit false) })
      | .pb p _ true => Cnd p (bif want then no { st with slots := updS st.slots d (.lit false) } else yes { st with slots := updS st.slots d (.lit false) })
          (bif want then yes { st with slots := updS st.slots d (.lit true) } else no { st with slots := updS st.slots d (.lit true) })
      | _ => False

def noBan : List Nat → Bool := fun _ => true
/-- Operations in the order of the text. -/
def opsS (E : Ev S) (inlh : InlH S) (n : Nat) (ro : Ro S) (ops : Array Oper) : List Oper → AS S → (AS S → Prop) → Prop
  | [], st, k => k st
  | o :: l, st, k => guardS n ro ops st o (fun st => stepS E inlh n ro st noBan o fun _ st => opsS E inlh n ro ops l st k)
      fun st => putS ro st o.dst .und fun st => opsS E inlh n ro ops l st k

/-! A region that draws its order. -/
def depQ (ops : Array Oper) (j i : Nat) : Bool :=
  match ops[j]? with
  | some o => o.after.any fun e => Region.binds .any e && Nat.beq e.on i
  | none => false
/-- The operations whose values an operation takes. -/
def datasQ (ops : Array Oper) (j : Nat) : List Nat :=
  match ops[j]? with
  | some o => (o.after.toList.filter fun e => match e.ground with | .data => true | _ => false).map (·.on)
  | none => []
def anyN (f : Nat → Bool) : List Nat → Bool
  | [] => false
  | m :: l => bif f m then true else anyN f l
/-- Does it wait for another one, at once or through the values that it takes? -/
def depT (ops : Array Oper) : Nat → Nat → Nat → Bool
  | 0, j, i => depQ ops j i
  | k + 1, j, i => bif depQ ops j i then true else anyN (fun m => depT ops k m i) (datasQ ops j)
abbrev depD (ops : Array Oper) (j i : Nat) : Bool := depT ops 12 j i
/-- May the operation be taken before others? -/
def firstQ (ops : Array Oper) (m mask : Nat) (isP : Oper → Bool) : List Nat → Option Nat
  | [] => none
  | i :: l => match ops[i]? with
    | some o => bif isP o && o.dst.isSome && Region.free .any ops (bt m mask) i then some i else firstQ ops m mask isP l
    | none => none
def prune (ops : Array Oper) (j : Nat) (prot : List (Nat × List Nat)) : List (Nat × List Nat) := prot.filter fun q => !depD ops j q.1
/-- Are the objects that are still to be read left alone? -/
def banQ (ro : Ro S) (st : AS S) (ops : Array Oper) (j : Nat) (prot : List (Nat × List Nat)) (tl : List Nat) : Bool :=
  prot.all fun q => depD ops j q.1 || q.2.all fun o => !hasN tl o && (match obS ro st o with | some (.frz _ _) => false | some _ => true | none => false)
def allR (f : Nat → Prop) : List Nat → Prop
  | [] => True
  | [i] => f i
  | i :: l => f i ∧ allR f l
/-- An operation that leaves the world alone, whatever its guard says. -/
def pureQ (ro : Ro S) (n : Nat) (ops : Array Oper) (st : AS S) (o : Oper) : Bool :=
  !isEff (obS ro st) (evS n ro st) o.op && !isCall o.op || (match o.guard with
    | some (j, want) => match ((ops[j]?).bind (·.dst)).map (fun d => evS n ro st (.tmp d)) with
      | some (.lit b) => !(b == want)
      | some .und => true
      | _ => false
    | none => false)
/-- What a new variable holds. -/
def zAO (P : Program) (D : Shp S) (t : TypeId) : Option (AO S) :=
  match D.acode t with
  | some (T, N) => some (.arr t T N (List.replicate N (D.zero T)))
  | none => (match (P.info? t).bind (·.zero) with
    | some z => bif z.cells.toList.all isZ then some (.cells t (z.cells.toList.map fun v => SV.f (ofZero v))) else none
    | none => none)
/-- New variables that wait for nothing: they are made behind all that does not wait for them. -/
def isLate (P : Program) (D : Shp S) (ro : Ro S) (ops : Array Oper) (i : Nat) : Bool :=
  match ops[i]? with
  | some o => (match o.op, o.dst with
    | .alloc t, some d => (zAO P D t).isSome && !hasN ro.lock d && o.guard.isNone && o.after.toList.isEmpty && (List.range ops.size).all fun j => Nat.beq j i || (match (ops[j]?).bind (·.dst) with | some d' => !Nat.beq d' d | none => true)
    | _, _ => false)
  | none => false
def latesQ (P : Program) (D : Shp S) (ro : Ro S) (ops : Array Oper) : List Nat := (List.range ops.size).filter (isLate P D ro ops)
def orL (mask : Nat) : List Nat → Nat
  | [] => mask
  | i :: L => orL (mask ||| 1 <<< i) L
/-- A late variable's slot holds nothing yet. -/
def deadL (ops : Array Oper) : List Nat → AS S → AS S
  | [], st => st
  | i :: L, st => deadL ops L (match (ops[i]?).bind (·.dst) with
    | some d => (match st.slots d with
      | .dead => st
      | _ => { st with slots := updS st.slots d .dead })
    | none => st)
def deadK (ops : Array Oper) : List Nat → AS S → (AS S → Prop) → Prop
  | [], st, k => k st
  | i :: L, st, k => match (ops[i]?).bind (·.dst) with
    | some d => (match st.slots d with
      | .dead => deadK ops L st k
      | _ => deadK ops L { st with slots := updS st.slots d .dead } k)
    | none => deadK ops L st k
theorem deadK_eq {ops : Array Oper} : ∀ {L : List Nat} {st : AS S} {k : AS S → Prop}, deadK ops L st k = k (deadL ops L st)
  | [], _, _ => rfl
  | i :: L, st, k => by
    unfold deadK deadL
    split
    · split
      · rename_i h; rw [deadK_eq]
      · rename_i h; rw [deadK_eq]
    · rw [deadK_eq]
def forceL : List Nat → (List Nat → Prop) → Prop
  | [], k => k []
  | i :: l, k => forceL l fun l => k (i :: l)
theorem forceL_eq : ∀ {l : List Nat} {k : List Nat → Prop}, forceL l k = k l
  | [], _ => rfl
  | _ :: _, _ => by unfold forceL; rw [forceL_eq]
def notL (L : List Nat) (l : List Nat) : List Nat := l.filter fun j => !hasN L j
def drawS (E : Ev S) (inlh : InlH S) (n : Nat) (ro : Ro S) (ops : Array Oper) (m : Nat) (k : AS S → Prop) : Nat → List Nat → Nat → List (Nat × List Nat) → AS S → Prop
  | 0, L, mask, _, st => bif L.isEmpty && (Region.ready .any ops (bt m mask)).isEmpty then k st else False
  | fuel + 1, L, mask, prot, st => match notL L (Region.ready .any ops (bt m mask)) with
    | [] => (match L with
      | [] => k st
      | i :: L' => bif (Region.ready .any ops (bt m (orL mask L'))).all fun j => Nat.beq j i then (match ops[i]? with
        | some o => stepS E inlh n ro st noBan o fun _ st => deadK ops L' st fun st => drawS E inlh n ro ops m k fuel L' (mask ||| 1 <<< i) prot st
        | none => False) else False)
    | rs => match firstQ ops m mask (pureQ ro n ops st) rs with
      | some i => (match ops[i]? with
        | some o => guardS n ro ops st o
            (fun st => bif isEff (obS ro st) (evS n ro st) o.op || isCall o.op then False else
              pureOp E.P E.D (evS n ro st) (obS ro st) ro.cell o.op fun rd s => putS ro st o.dst s fun st => deadK ops L st fun st => drawS E inlh n ro ops m k fuel L (mask ||| 1 <<< i) ((i, rd) :: prot) st)
            fun st => putS ro st o.dst .und fun st => deadK ops L st fun st => drawS E inlh n ro ops m k fuel L (mask ||| 1 <<< i) ((i, []) :: prot) st
        | none => False)
      | none => bif L.isEmpty || (Region.ready .any ops (bt m (orL mask L))).all (hasN rs) then allR (fun i => match ops[i]? with
        | some o => guardS n ro ops st o
            (fun st => stepS E inlh n ro st (banQ ro st ops i prot) o fun _ st => deadK ops L st fun st => drawS E inlh n ro ops m k fuel L (mask ||| 1 <<< i) (prune ops i prot) st)
            fun st => putS ro st o.dst .und fun st => deadK ops L st fun st => drawS E inlh n ro ops m k fuel L (mask ||| 1 <<< i) (prune ops i prot) st
        | none => False) rs else False
def drawT (E : Ev S) (inlh : InlH S) (n : Nat) (ro : Ro S) (ops : Array Oper) (k : AS S → Prop) (st : AS S) : Prop :=
  forceL (latesQ E.P E.D ro ops) fun L => deadK ops L st fun st => drawS E inlh n ro ops ops.size k ops.size L 0 [] st

/-! Parts that ways and rounds change. -/
def frzIn (st : AS S) (fz : List Nat) (k : AS S → Prop) : Prop :=
  optK (frzs (findN st.objs) fz) fun l => bif nodupQ fz then k { st with objs := l ++ delNs st.objs fz } else False
def getK (D : Shp S) (ro : Ro S) (st : AS S) (s : SV S) : (kd : Kd S) → (kd.ty → AS S → Prop) → Prop
  | .int kk, K => (match s with
    | .f (.int k' a) => bif kk == k' then K a st else False
    | _ => False)
  | .bool, K => optK (boolS s) fun b => K b st
  | .str, K => (match s with
    | .f (.str a) => K a st
    | _ => False)
  | .sl T, K => (match s with
    | .f .nils => K [] st
    | .f (.sl T' l) => withCast T' T l fun l => K l st
    | .hnd o => (match obS ro st o with
      | some (.frz T' l) => withCast T' T l fun l => K l st
      | some (.vec _ T' l) => withCast T' T l fun l => frzIn st [o] fun st => K l st
      | _ => False)
    | _ => False)
  | .own e T, K => (match ownQ e T (findN st.objs) s with
    | some (a, l) => K l { st with objs := delNs st.objs a }
    | none => False)
  | .el T, K => (match s with
    | .agg cs => optK (toFs (obS ro st) cs) fun q => frzIn st q.2 fun st => optK (D.bld T q.1) fun x => K x st
    | _ => False)
  | .map _ _, _ => False
  | .arr _ _ _, _ => False
  | .iter _ _, _ => False
def getO (o : Nat) (st : AS S) : (kd : Kd S) → (kd.ty → AS S → Prop) → Prop
  | .own e T, K => (match findN st.objs o with
    | some (.vec e' T' l) => bif Nat.beq e e' then withCast T' T l fun l => K l { st with objs := delN st.objs o } else False
    | _ => False)
  | .map Kc V, K => (match findN st.objs o with
    | some (.map K' V' F) => withMap K' V' F Kc V fun F => K F { st with objs := delN st.objs o }
    | _ => False)
  | .arr ty T N, K => (match findN st.objs o with
    | some (.arr ty' T' N' l) => bif Nat.beq ty ty' && Nat.beq N N' then withCast T' T l fun l => K l { st with objs := delN st.objs o } else False
    | _ => False)
  | .iter Kc V, K => (match findN st.objs o with
    | some (.iter K' V' F done _) => withMap K' V' F Kc V fun F => withCast K' Kc done fun done => K (F, done) { st with objs := delN st.objs o }
    | _ => False)
  | _, _ => False
def getI (D : Shp S) (ro : Ro S) (st : AS S) : (i : Item S) → (i.2.ty → AS S → Prop) → Prop
  | (.slot j, kd), K => getK D ro st (slotS ro st j) kd K
  | (.cell o i, kd), K => (match findN st.objs o with
    | some (.cells _ l) => (match l[i]? with
      | some s => getK D ro st s kd K
      | none => False)
    | _ => False)
  | (.obj o, kd), K => getO o st kd K
def getAll (D : Shp S) (ro : Ro S) : (l : List (Item S)) → AS S → (HL l → AS S → Prop) → Prop
  | [], st, K => K () st
  | i :: l, st, K => getI D ro st i fun x st => getAll D ro l st fun xs st => K (x, xs) st

/-- A part, put back: its value, and the object that it is. -/
def putK (D : Shp S) (nm : Nat) : (kd : Kd S) → kd.ty → SV S × List (Nat × AO S)
  | .int k, a => (.f (.int k a), [])
  | .bool, b => (.f (.bool b), [])
  | .str, a => (.f (.str a), [])
  | .sl T, l => (.f (.sl T l), [])
  | .own e T, l => (.hnd nm, [(nm, .vec e T l)])
  | .el T, x => (.agg ((D.shape T x).map SV.f), [])
  | .map K V, F => (.hnd nm, [(nm, .map K V F)])
  | .arr ty T N, l => (.ref nm 0, [(nm, .arr ty T N l)])
  | .iter K V, x => (.ref nm 0, [(nm, .iter K V x.1 x.2 none)])
structure Acc (S : Sig) where
  slots : Nat → SV S
  cells : List ((Nat × Nat) × SV S)
  objs : List (Nat × AO S)
def putAll (D : Shp S) : (l : List (Item S)) → HL l → Nat → Acc S → Acc S
  | [], _, _, a => a
  | (.slot j, kd) :: l, (x, xs), nm, a => putAll D l xs (nm + 1) { a with slots := updS a.slots j (putK D nm kd x).1, objs := (putK D nm kd x).2 ++ a.objs }
  | (.cell o i, kd) :: l, (x, xs), nm, a => putAll D l xs (nm + 1) { a with cells := ((o, i), (putK D nm kd x).1) :: a.cells, objs := (putK D nm kd x).2 ++ a.objs }
  | (.obj o, kd) :: l, (x, xs), nm, a => putAll D l xs (nm + 1) { a with objs := (putK D o kd x).2 ++ a.objs }
def cellQ : List ((Nat × Nat) × SV S) → Nat → Nat → Option (SV S)
  | [], _, _ => none
  | ((o, i), s) :: l, o', i' => bif Nat.beq o o' && Nat.beq i i' then some s else cellQ l o' i'
def mkCells (g : Nat → Option (SV S)) : Nat → Nat → List (SV S)
  | _, 0 => []
  | i, n + 1 => (g i).getD .lk :: mkCells g (i + 1) n
def objsOf (cells : List ((Nat × Nat) × SV S)) : List (Nat × TypeId × Nat) → List (Nat × AO S)
  | [] => []
  | (o, ty, len) :: l => (o, .cells ty (mkCells (cellQ cells o) 0 len)) :: objsOf cells l
/-- The state that the parts make. -/
def stOf (D : Shp S) (sp : Spec S) (nm : Nat) (t : HL sp.items) : AS S :=
  let a := putAll D sp.items t nm ⟨fun _ => .dead, [], []⟩
  { slots := a.slots, objs := a.objs ++ objsOf a.cells sp.cobj, next := nm + sp.items.length }
/-- What stays. -/
def pickN (objs : List (Nat × AO S)) : List Nat → Option (List (Nat × AO S))
  | [] => some []
  | o :: l => match findN objs o, pickN objs l with
    | some a, some r => some ((o, a) :: r)
    | _, _ => none
def hasC : List (Nat × TypeId × Nat) → Nat → Bool
  | [], _ => false
  | (o, _, _) :: l, o' => bif Nat.beq o o' then true else hasC l o'
def roOf (sp : Spec S) (ro : Ro S) (st : AS S) (robj : List (Nat × AO S)) : Ro S where
  slots := slotS ro st
  lock := ro.lock ++ sp.lock
  objs := robj ++ ro.objs
  cell := fun o i => bif hasC sp.cobj o then (match findN st.objs o with
    | some (.cells _ l) => (resL (ro.cell o) 0 l).getD i .dead
    | _ => .dead) else ro.cell o i
def objLt (nm : Nat) : List (Item S) → Bool
  | [] => true
  | (.obj o, _) :: l => Nat.blt o nm && objLt nm l
  | (.cell o _, _) :: l => Nat.blt o nm && objLt nm l
  | _ :: l => objLt nm l
/-- Are the objects with locked cells there, at their types and lengths, and apart from what stays? -/
def cobjQ (sp : Spec S) (ro : Ro S) (st : AS S) : Bool :=
  (sp.cobj.all fun q => (match findN st.objs q.1 with
    | some (.cells ty l) => Nat.beq ty q.2.1 && Nat.beq l.length q.2.2
    | _ => false) && !hasN sp.robj q.1) && nodupQ ((st.objs ++ ro.objs).map (·.1)) && nodupQ sp.robj && nodupQ (sp.cobj.map (·.1)) && sp.cobj.all (fun q => Nat.blt q.1 st.next) && objLt st.next sp.items
/-- Their cells, locked where no part is. -/
def lockL (l : List (SV S)) (g : Nat → Bool) : Nat → List (SV S) := fun i =>
  match l with
  | [] => []
  | s :: l => (bif g i then s else .lk) :: lockL l g (i + 1)
def itemC : List (Item S) → Nat → Nat → Bool
  | [], _, _ => false
  | (.cell o i, _) :: l, o', i' => bif Nat.beq o o' && Nat.beq i i' then true else itemC l o' i'
  | _ :: l, o', i' => itemC l o' i'
def lockObjs (sp : Spec S) : List (Nat × AO S) → List (Nat × AO S)
  | [] => []
  | (o, .cells ty l) :: os => (o, bif hasC sp.cobj o then .cells ty (lockL l (itemC sp.items o) 0) else .cells ty l) :: lockObjs sp os
  | q :: os => q :: lockObjs sp os
/-- At the end of a way or a round: are the locked cells locked still? -/
def stillL (g : Nat → Bool) : Nat → List (SV S) → Bool
  | _, [] => true
  | i, .lk :: l => stillL g (i + 1) l
  | i, _ :: l => g i && stillL g (i + 1) l
def endQ (sp : Spec S) (st : AS S) : Bool :=
  sp.cobj.all fun q => match findN st.objs q.1 with
    | some (.cells ty l) => Nat.beq ty q.2.1 && Nat.beq l.length q.2.2 && stillL (itemC sp.items q.1) 0 l
    | _ => false
def endI (D : Shp S) (ro : Ro S) (sp : Spec S) (st : AS S) (Y : HL sp.items → Prop) : Prop :=
  getAll D ro sp.items st fun t st => bif endQ sp st then Y t else False
/-- Out of a loop or a way: what was locked is as it was. -/
def unlockL : List (SV S) → List (SV S) → List (SV S)
  | [], _ => []
  | .lk :: l, l0 => l0.head?.getD .dead :: unlockL l l0.tail
  | s :: l, l0 => s :: unlockL l l0.tail
def unlock (sp : Spec S) (st : AS S) : List (Nat × AO S) → List (Nat × AO S)
  | [] => []
  | (o, .cells ty l) :: os => (o, bif hasC sp.cobj o then .cells ty (unlockL l (match findN st.objs o with | some (.cells _ l0) => l0 | _ => [])) else .cells ty l) :: unlock sp st os
  | q :: os => q :: unlock sp st os
def merge (sp : Spec S) (st : AS S) (robj : List (Nat × AO S)) (a : AS S) : AS S where
  slots := fun j => bif hasN sp.lock j then st.slots j else a.slots j
  objs := unlock sp st a.objs ++ robj
  next := a.next

/-! Joins and loops over the parts. -/
def LpH {T : Type} (body : T → (T → Prop) → Prop) (t : T) : Prop := ∀ X : T → Prop, (∀ t' Y, (∀ u, Y u → X u) → body t' Y → X t') → X t
def LpG : (l : List (Item S)) → (HL l → (HL l → Prop) → Prop) → HL l → Prop
  | [_], body, t => Lp1 (fun x Y => body (x, ()) fun u => Y u.1) t.1
  | [_, _], body, t => Lp2 (fun x y Y => body (x, y, ()) fun u => Y u.1 u.2.1) t.1 t.2.1
  | [_, _, _], body, t => Lp3 (fun x y z Y => body (x, y, z, ()) fun u => Y u.1 u.2.1 u.2.2.1) t.1 t.2.1 t.2.2.1
  | [_, _, _, _], body, t => Lp4 (fun x y z v Y => body (x, y, z, v, ()) fun u => Y u.1 u.2.1 u.2.2.1 u.2.2.2.1) t.1 t.2.1 t.2.2.1 t.2.2.2.1
  | [_, _, _, _, _], body, t => Lp5 (fun x y z v w Y => body (x, y, z, v, w, ()) fun u => Y u.1 u.2.1 u.2.2.1 u.2.2.2.1 u.2.2.2.2.1) t.1 t.2.1 t.2.2.1 t.2.2.2.1 t.2.2.2.2.1
  | _, body, t => LpH body t
def JnG : (l : List (Item S)) → (HL l → Prop) → ((HL l → Prop) → Prop) → Prop
  | [], k, A => Jn0 (k ()) fun Y => A fun _ => Y
  | [_], k, A => Jn1 (fun x => k (x, ())) fun Y => A fun u => Y u.1
  | [_, _], k, A => Jn2 (fun x y => k (x, y, ())) fun Y => A fun u => Y u.1 u.2.1
  | [_, _, _], k, A => Jn3 (fun x y z => k (x, y, z, ())) fun Y => A fun u => Y u.1 u.2.1 u.2.2.1
  | [_, _, _, _], k, A => Jn4 (fun x y z v => k (x, y, z, v, ())) fun Y => A fun u => Y u.1 u.2.1 u.2.2.1 u.2.2.2.1
  | _, k, A => Jn1 k A

/-! Code. -/
def keyC : Code → Nat
  | .region id _ _ => id
  | .seq a _ => keyC a
  | .cond _ a _ => keyC a
  | .block _ a => keyC a
  | .loop a => keyC a
  | .scope a => keyC a
  | _ => 0
abbrev Kc (S : Sig) := Exit → AS S → Prop
def thenK (f : AS S → Prop) (k : Kc S) : Kc S
  | .normal, st => f st
  | e, st => k e st
def blockK (id : Nat) (k : Kc S) : Kc S
  | .exit i, st => bif Nat.beq i id then k .normal st else k (.exit i) st
  | e, st => k e st
def scopeK (k : Kc S) : Kc S
  | .goto _, _ => False
  | e, st => k e st
/-- No spec stands here, or one that does not fit. -/
def NoPlan (_ : Nat) (_ : Ro S) (_ : AS S) : Prop := False
def planK (key : Nat) (ro : Ro S) (st : AS S) (o : Option (List (Nat × AO S))) (k : List (Nat × AO S) → Prop) : Prop :=
  match o with
  | some x => k x
  | none => NoPlan key ro st
/-- Which spec stands at a loop, and at a join. -/
def vcC (E : Ev S) (inlh : InlH S) (n : Nat) : Code → Ro S → Kc S → AS S → Prop
  | .skip, _, k, st => k .normal st
  | .region _ ops draw, ro, k, st => bif draw then (bif Region.noSelect ops then drawT E inlh n ro ops (k .normal) st else False) else opsS E inlh n ro ops ops.toList st (k .normal)
  | .seq x y, ro, k, st => match E.plan (E.base + 2 * keyC y) with
    | none => vcC E inlh n x ro (thenK (vcC E inlh n y ro k) k) st
    | some sp => planK (E.base + 2 * keyC y) ro st (pickN st.objs sp.robj) fun robj => bif cobjQ sp ro st then
        JnG sp.items (fun t => vcC E inlh n y ro k (merge sp st robj (stOf E.D sp st.next t)))
          fun Y => vcC E inlh n x (roOf sp ro st robj) (thenK (fun a => endI E.D (roOf sp ro st robj) sp a Y) fun e a => k e (merge sp st robj a))
            { slots := st.slots, objs := lockObjs sp (delNs st.objs sp.robj), next := st.next }
      else False
  | .cond c x y, ro, k, st => tst (evS n ro st c) (vcC E inlh n x ro k st) (vcC E inlh n y ro k st)
  | .block id b, ro, k, st => vcC E inlh n b ro (blockK id k) st
  | .loop b, ro, k, st => match E.plan (E.base + 2 * keyC b + 1) with
    | none => NoPlan (E.base + 2 * keyC b + 1) ro st
    | some sp => planK (E.base + 2 * keyC b + 1) ro st (pickN st.objs sp.robj) fun robj => bif cobjQ sp ro st then
        endI E.D (roOf sp ro st robj) sp { slots := st.slots, objs := lockObjs sp (delNs st.objs sp.robj), next := st.next } fun t0 =>
          LpG sp.items (fun t Y => vcC E inlh n b (roOf sp ro st robj) (thenK (fun a => endI E.D (roOf sp ro st robj) sp a Y) fun e a => k e (merge sp st robj a)) (stOf E.D sp st.next t)) t0
      else False
  | .exit i, _, k, st => k (.exit i) st
  | .scope b, ro, k, st => vcC E inlh n b ro (scopeK k) st
  | .ret, _, k, st => k .ret st
  | _, _, _, _ => False

/-- A function's results. -/
def resK (P : Program) (D : Shp S) (n : Nat) (ro : Ro S) (st : AS S) : List ResultVar → (List (SV S) → Prop) → Prop
  | [], K => K []
  | .tmp t :: l, K => resK P D n ro st l fun r => K (evS n ro st (.tmp t) :: r)
  | .cell t ty :: l, K => pureOp P D (evS n ro st) (obS ro st) ro.cell (.load ty (.tmp t)) fun _ s => resK P D n ro st l fun r => K (s :: r)
def frlS (l : List (SV S)) : Nat → SV S := fun j => l.getD j .und
/-- The parts that a function leaves changed: those that are no slots. -/
def outItems : List (Item S) → List (Item S)
  | [] => []
  | (.slot _, _) :: l => outItems l
  | i :: l => i :: outItems l
def outSp (sp : Spec S) : Spec S := { sp with items := outItems sp.items }
def objIn (objs : List (Nat × AO S)) : List (Item S) → Bool
  | [] => true
  | (.obj o, _) :: l => (findN objs o).isSome && objIn objs l
  | (.cell o _, _) :: l => (findN objs o).isSome && objIn objs l
  | _ :: l => objIn objs l
/-- The same object's place. -/
def refQ : SV S → SV S → Bool
  | .ref a b, .ref c d => Nat.beq a c && Nat.beq b d
  | _, _ => false
/-- A piece that goes into itself. -/
def RecH {T U : Type} (body : (Nat → T → (U → Prop) → Prop) → Nat → T → (U → Prop) → Prop) (n : Nat) (t : T) (K : U → Prop) : Prop :=
  ∀ X : Nat → T → (U → Prop) → Prop, (∀ n t K, body X n t K → X n t K) → X n t K
def hndl (D : Shp S) (g : Nat) (sp : Spec S) (ro1 : Ro S) (full : List (SV S)) (X : Nat → HL sp.items → (HL (outSp sp).items → Prop) → Prop) : InlH S := fun g' full' ro' st' k' =>
  bif Nat.beq g' g && Nat.beq ro'.stamp 1 && Nat.beq full'.length full.length && sp.lock.all (fun j => refQ (frlS full' j) (frlS full j)) && objIn st'.objs sp.items then
    endI D ro1 sp { slots := frlS full', objs := st'.objs, next := st'.next } fun t => X st'.next t fun u =>
      k' { slots := st'.slots, objs := (stOf D (outSp sp) st'.next u).objs, next := (stOf D (outSp sp) st'.next u).next } (.tup []) else False
/-- What a function leaves, without results. -/
def exitR (D : Shp S) (sp : Spec S) (ro1 : Ro S) (Y : HL (outSp sp).items → Prop) : Kc S := fun e a =>
  match e with
  | .ret => endI D ro1 (outSp sp) a Y
  | .normal => endI D ro1 (outSp sp) a Y
  | _ => False
def inlN (E : Ev S) : Nat → InlH S
  | 0 => fun _ _ _ _ _ => False
  | fuel + 1 => fun g full ro st k => match E.P.funcs[g]? with
    | some fn => (match fn.body with
      | some c => bif Nat.ble full.length fn.ntmps then
          (match E.plan (1000000 * (g + 1) + 999999) with
          | none => vcC (E.at (1000000 * (g + 1))) (inlN E fuel) fn.ntmps c { slots := fun _ => .dead, lock := [], objs := ro.objs, cell := ro.cell }
            (fun e a => match e with
              | .ret => resK E.P E.D fn.ntmps { slots := fun _ => .dead, lock := [], objs := ro.objs, cell := ro.cell } a fn.results.toList fun r => k { slots := st.slots, objs := a.objs, next := a.next } (tupS r)
              | .normal => resK E.P E.D fn.ntmps { slots := fun _ => .dead, lock := [], objs := ro.objs, cell := ro.cell } a fn.results.toList fun r => k { slots := st.slots, objs := a.objs, next := a.next } (tupS r)
              | _ => False)
            { slots := frlS full, objs := st.objs, next := st.next }
          | some sp =>
            let ro0 : Ro S := { slots := fun _ => .dead, lock := [], objs := ro.objs, cell := ro.cell }
            let st0 : AS S := { slots := frlS full, objs := st.objs, next := st.next }
            planK (1000000 * (g + 1) + 999999) ro0 st0 (pickN st0.objs sp.robj) fun robj => bif cobjQ sp ro0 st0 && sp.cobj.isEmpty && fn.results.toList.isEmpty then
              endI E.D { roOf sp ro0 st0 robj with stamp := 1 } sp { slots := st0.slots, objs := lockObjs sp (delNs st0.objs sp.robj), next := st0.next } fun t0 =>
                RecH (fun X nm t Y => vcC (E.at (1000000 * (g + 1))) (hndl E.D g sp { roOf sp ro0 st0 robj with stamp := 1 } full X) fn.ntmps c { roOf sp ro0 st0 robj with stamp := 1 } (exitR E.D sp { roOf sp ro0 st0 robj with stamp := 1 } Y) (stOf E.D sp nm t))
                  st.next t0 fun u => k { slots := st.slots, objs := (merge sp st0 robj (stOf E.D (outSp sp) st.next u)).objs, next := (stOf E.D (outSp sp) st.next u).next } (.tup [])
            else False) else False
      | none => False)
    | none => False

/-! Which cells of what comes in stay. -/
mutual
def cons : PK S → SV S → (Nat → Option (AO S)) → List (Nat × Nat)
  | .ptr _ pk, .ref o 0, ob => match ob o with
    | some (.cells _ l) => conss o 0 pk l ob
    | _ => []
  | _, _, _ => []
def conss (o i : Nat) : List (PK S) → List (SV S) → (Nat → Option (AO S)) → List (Nat × Nat)
  | .c :: pk, _ :: l, ob => (o, i) :: conss o (i + 1) pk l ob
  | p :: pk, s :: l, ob => cons p s ob ++ conss o (i + 1) pk l ob
  | _, _, _ => []
end
def consT : List (PK S) → List (SV S) → (Nat → Option (AO S)) → List (Nat × Nat)
  | p :: pk, s :: l, ob => cons p s ob ++ consT pk l ob
  | _, _, _ => []
def hasP : List (Nat × Nat) → Nat → Nat → Bool
  | [], _, _ => false
  | (a, b) :: l, o, i => bif Nat.beq a o && Nat.beq b i then true else hasP l o i
def lockP (cs : List (Nat × Nat)) : List (Nat × AO S) → List (Nat × AO S)
  | [] => []
  | (o, .cells ty l) :: os => (o, .cells ty (lockL l (fun i => !hasP cs o i) 0)) :: lockP cs os
  | q :: os => q :: lockP cs os
/-- A function by its own text: what must hold of what is handed to it, for an end. -/
def fnVC (E : Ev S) (fuel g : Nat) (pk rk : List (PK S)) (args : List (Tr S)) (K : List (Tr S) → List (Tr S) → Prop) : Prop :=
  match E.P.funcs[g]? with
  | some fn => (match fn.body, insts E.D args 0 with
    | some c, some (ss, os, nx) => bif Nat.ble ss.length fn.ntmps then
        let cs := consT pk ss (findN os)
        let ro : Ro S := { slots := fun _ => .dead, lock := [], objs := [], cell := fun o i => match findN os o with | some (.cells _ l) => l.getD i .dead | _ => .dead }
        vcC E (inlN E fuel) fn.ntmps c ro
          (fun e a => match e with
            | .ret => resK E.P E.D fn.ntmps ro a fn.results.toList fun r => optK (gaths E.D (obS ro a) ro.cell rk r) fun q => optK (backT (obS ro a) (findN os) ro.cell pk ss) fun q' => optK (frzs (obS ro a) (q.2.2 ++ q'.2.2)) fun _ =>
                bif nodupQ (q.2.1 ++ q'.2.1 ++ (q.2.2 ++ q'.2.2)) && inRw a (q.2.1 ++ q'.2.1 ++ (q.2.2 ++ q'.2.2)) then K q.1 q'.1 else False
            | .normal => resK E.P E.D fn.ntmps ro a fn.results.toList fun r => optK (gaths E.D (obS ro a) ro.cell rk r) fun q => optK (backT (obS ro a) (findN os) ro.cell pk ss) fun q' => optK (frzs (obS ro a) (q.2.2 ++ q'.2.2)) fun _ =>
                bif nodupQ (q.2.1 ++ q'.2.1 ++ (q.2.2 ++ q'.2.2)) && inRw a (q.2.1 ++ q'.2.1 ++ (q.2.2 ++ q'.2.2)) then K q.1 q'.1 else False
            | _ => False)
          { slots := frlS ss, objs := lockP cs os, next := nx } else False
    | _, _ => False)
  | none => False
end Go.Fx
