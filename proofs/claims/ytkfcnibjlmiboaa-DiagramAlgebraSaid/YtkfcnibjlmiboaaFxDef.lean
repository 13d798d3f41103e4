/- Plain states of code, and what a piece of code makes of them, as what must hold for an end. Conditions: none; no memory is in sight. -/
import Derived.Test.YtkfcnibjlmiboaaFlMapK
namespace Go.Fx
open Go Go.RowKit Go.Fl Go.Fl.Lk

/-- The kinds of elements of a program. -/
structure Sig where
  C : Type
  car : C → Type
  dec : DecidableEq C

/-- A value without memory of the call's own. -/
inductive FV (S : Sig) : Type where
  | bool (b : Bool)
  | int (k : IntKind) (n : Int)
  | str (s : ByteArray)
  | nils
  | nilp
  | nilm
  | nilf
  | sl (T : S.C) (l : List (S.car T))

/-- What is known of a slot. Objects of the call's own have names. -/
inductive SV (S : Sig) : Type where
  | f (x : FV S)
  | lit (b : Bool)
  | pb (p : Prop) (d : Decidable p) (neg : Bool)
  | agg (l : List (SV S))
  | tup (l : List (SV S))
  | arr (T : S.C) (N : Nat) (l : List (S.car T))
  | ref (o off : Nat)
  | eref (T : S.C) (o i off : Nat)
  | aref (T : S.C) (N o i off : Nat)
  | fptr (l : List (FV S)) (off : Nat)
  | fap (T : S.C) (N : Nat) (l : List (S.car T))
  | hnd (o : Nat)
  | fn (g : Nat) (first cap : List (SV S))
  | und
  | lk
  | dead

/-- What is known of an object. -/
inductive AO (S : Sig) : Type where
  | cells (ty : TypeId) (l : List (SV S))
  | vec (e : TypeId) (T : S.C) (l : List (S.car T))
  | frz (T : S.C) (l : List (S.car T))
  | arr (ty : TypeId) (T : S.C) (N : Nat) (l : List (S.car T))
  | map (K V : S.C) (F : S.car K → Option (S.car V))
  | iter (K V : S.C) (F : S.car K → Option (S.car V)) (done : List (S.car K)) (cur : Option (S.car K × S.car V))

structure AS (S : Sig) where
  slots : Nat → SV S
  objs : List (Nat × AO S)
  next : Nat

/-- What a piece of code leaves as it is. -/
structure Ro (S : Sig) where
  slots : Nat → SV S
  lock : List Nat
  objs : List (Nat × AO S)
  cell : Nat → Nat → SV S
  stamp : Nat := 0

variable {S : Sig}

def hasN : List Nat → Nat → Bool
  | [], _ => false
  | a :: l, b => bif Nat.beq a b then true else hasN l b
def findN {α : Type} : List (Nat × α) → Nat → Option α
  | [], _ => none
  | (a, x) :: l, b => bif Nat.beq a b then some x else findN l b
def delN {α : Type} : List (Nat × α) → Nat → List (Nat × α)
  | [], _ => []
  | (a, x) :: l, b => bif Nat.beq a b then l else (a, x) :: delN l b
def delNs {α : Type} : List (Nat × α) → List Nat → List (Nat × α)
  | l, [] => l
  | l, b :: bs => delNs (delN l b) bs
def updS (f : Nat → SV S) (d : Nat) (v : SV S) : Nat → SV S := fun j => bif Nat.beq j d then v else f j

def withCast (T T' : S.C) (l : List (S.car T)) (k : List (S.car T') → Prop) : Prop :=
  match S.dec T T' with
  | isTrue h => k (h ▸ l)
  | isFalse _ => False

def withMap (K V : S.C) (F : S.car K → Option (S.car V)) (K' V' : S.C) (k : (S.car K' → Option (S.car V')) → Prop) : Prop :=
  match S.dec K K', S.dec V V' with
  | isTrue h, isTrue h' => k (h ▸ h' ▸ F)
  | _, _ => False

/-- How the elements of a program lie in cells. -/
structure Shp (S : Sig) where
  size : S.C → Nat
  shape : (T : S.C) → S.car T → List (FV S)
  bld : (T : S.C) → List (FV S) → Option (S.car T)
  zero : (T : S.C) → S.car T
  code : TypeId → Option S.C
  acode : TypeId → Option (S.C × Nat)
  mcode : TypeId → Option (S.C × S.C)
  kdec : (T : S.C) → DecidableEq (S.car T)

def ofConst : Value → SV S
  | .bool b => .lit b
  | .int k n => .f (.int k n)
  | .string s => .f (.str s)
  | .pointer none => .f .nilp
  | .slice none 0 0 => .f .nils
  | .map none => .f .nilm
  | .nilFunc => .f .nilf
  | _ => .dead
def ofZero : Value → FV S
  | .bool b => .bool b
  | .int k n => .int k n
  | .string s => .str s
  | .slice none 0 0 => .nils
  | .pointer none => .nilp
  | .map none => .nilm
  | _ => .nilf
/-- Is the value one that 'ofZero' takes as it is? -/
def isZ : Value → Bool
  | .bool _ => true
  | .int _ _ => true
  | .string _ => true
  | .slice none 0 0 => true
  | .pointer none => true
  | .map none => true
  | .nilFunc => true
  | _ => false

/-- A frozen value, and the lists of the call's own that must be frozen for it. -/
def toF (ob : Nat → Option (AO S)) : SV S → Option (FV S × List Nat)
  | .f x => some (x, [])
  | .lit b => some (.bool b, [])
  | .pb p d false => some (.bool (@decide p d), [])
  | .pb p d true => some (.bool (!@decide p d), [])
  | .hnd o => match ob o with
    | some (.frz T l) => some (.sl T l, [])
    | some (.vec _ T l) => some (.sl T l, [o])
    | _ => none
  | _ => none
def toFs (ob : Nat → Option (AO S)) : List (SV S) → Option (List (FV S) × List Nat)
  | [] => some ([], [])
  | s :: l => match toF ob s with
    | some (x, a) => match toFs ob l with
      | some (xs, b) => some (x :: xs, a ++ b)
      | none => none
    | none => none
def cellsS : SV S → Option (List (SV S))
  | .agg l => some l
  | .arr _ _ _ => none
  | .tup _ => none
  | .dead => none
  | .und => none
  | .lk => none
  | s => some [s]

/-- Cells as a value. -/
def svOf (l : List (FV S)) : SV S :=
  match l with
  | [x] => .f x
  | l => .agg (l.map SV.f)
/-- A list of the keys of a map; all keys are among some; a key is not among some. -/
def Keys {κ α : Type} (F : κ → Option α) (ks : List κ) : Prop := ks.Nodup ∧ ∀ k, k ∈ ks ↔ (F k).isSome = true
def AllIn {κ α : Type} (F : κ → Option α) (done : List κ) : Prop := ∀ k, (F k).isSome = true → k ∈ done
def NotIn {κ : Type} (k : κ) (done : List κ) : Prop := k ∉ done
/-- The cells of a key or an element of a map. -/
def keyS : SV S → Option (List (SV S))
  | .agg (a :: b :: l) => some (a :: b :: l)
  | .agg _ => none
  | s => cellsS s

/-- A test. -/
def tst (s : SV S) (A B : Prop) : Prop :=
  match s with
  | .lit true => A
  | .lit false => B
  | .f (.bool b) => Cnd (b = true) A B
  | .pb p _ false => Cnd p A B
  | .pb p _ true => Cnd p B A
  | _ => False

def aggQ (P : Program) (t : TypeId) : Bool :=
  match P.underlying t with
  | some (.struct _) => true
  | some (.array _ _) => true
  | _ => false
def szQ (P : Program) (t : TypeId) : Nat :=
  match P.info? t with
  | some i => i.size
  | none => 0
def hasT (P : Program) (t : TypeId) : Bool := (P.info? t).isSome && (P.underlying t).isSome

/-- The cells of an object, those that stay filled in. -/
def resL (lkc : Nat → SV S) : Nat → List (SV S) → List (SV S)
  | _, [] => []
  | i, .lk :: l => lkc i :: resL lkc (i + 1) l
  | i, s :: l => s :: resL lkc (i + 1) l

/-- Some of the cells, as a value of a type. -/
def subS (P : Program) (t : TypeId) (l : List (SV S)) (off : Nat) : Option (SV S) :=
  bif hasT P t then
    bif aggQ P t then (bif Nat.ble (off + szQ P t) l.length then some (.agg ((l.drop off).take (szQ P t))) else none) else l[off]?
  else none
def optK {α : Type} (o : Option α) (k : α → Prop) : Prop :=
  match o with
  | some x => k x
  | none => False
def boolS : SV S → Option Bool
  | .lit b => some b
  | .f (.bool b) => some b
  | .pb p d false => some (@decide p d)
  | .pb p d true => some (!@decide p d)
  | _ => none

/-- Integers: what comes of arithmetic. -/
def arith (k : IntKind) (r : Int) (K : SV S → Prop) : Prop :=
  match k with
  | .i64 => InI r ∧ K (.f (.int .i64 r))
  | k => K (.f (.int k (k.wrap r)))
def binI (op : BinOp) (k : IntKind) (a b : Int) (K : SV S → Prop) : Prop :=
  match op with
  | .add => arith k (a + b) K
  | .sub => arith k (a - b) K
  | .mul => arith k (a * b) K
  | .quo => b ≠ 0 ∧ arith k (a.tdiv b) K
  | .rem => b ≠ 0 ∧ K (.f (.int k (a.tmod b)))
  | .eql => K (.pb (a = b) inferInstance false)
  | .neq => K (.pb (a = b) inferInstance true)
  | .lss => K (.pb (a < b) inferInstance false)
  | .leq => K (.pb (a ≤ b) inferInstance false)
  | .gtr => K (.pb (b < a) inferInstance false)
  | .geq => K (.pb (b ≤ a) inferInstance false)
  | _ => False
def binT (op : BinOp) (a b : ByteArray) (K : SV S → Prop) : Prop :=
  match op with
  | .add => ((a.size + b.size : Nat) : Int) ≤ 9223372036854775807 ∧ K (.f (.str (a ++ b)))
  | .eql => K (.pb (a = b) inferInstance false)
  | .neq => K (.pb (a = b) inferInstance true)
  | .lss => K (.pb (blt a b) inferInstance false)
  | .leq => K (.pb (blt b a) inferInstance true)
  | .gtr => K (.pb (blt b a) inferInstance false)
  | .geq => K (.pb (blt a b) inferInstance true)
  | _ => False
/-- A kind of a cell without memory. -/
inductive FK where
  | int (k : IntKind)
  | bool
  | str
def kindF : FV S → Option FK
  | .int k _ => some (.int k)
  | .bool _ => some .bool
  | .str _ => some .str
  | _ => none
def plainK (P : Program) (t : TypeId) : Option FK :=
  match P.underlying t with
  | some (.int k) => some (.int k)
  | some .bool => some .bool
  | some .string => some .str
  | _ => none
def flatFs (P : Program) : Nat → List Field → Option (List FK)
  | _, [] => some []
  | i, f :: fs => bif decide (f.name ≠ "_") && Nat.beq f.offset i then (match plainK P f.type, flatFs P (i + 1) fs with
    | some k, some ks => some (k :: ks)
    | _, _ => none) else none
/-- The kinds of the cells of a flat type. -/
def flatQ (P : Program) (t : TypeId) : Option (List FK) :=
  match P.underlying t with
  | some (.struct fs) => bif P.stoodInHeld t then none else flatFs P 0 fs.toList
  | some (.array n e) => bif (P.info? e).isSome && Nat.beq (P.cellsOf e) 1 then (plainK P e).map (List.replicate n) else none
  | _ => none
/-- Flat values, compared cell by cell. -/
def eqCell (k : FK) (a b : SV S) : Option ((p : Prop) ×' Decidable p) :=
  match k with
  | .int k => (match a, b with
    | .f (.int k1 x), .f (.int k2 y) => bif k1 == k && k2 == k then some ⟨x = y, inferInstance⟩ else none
    | _, _ => none)
  | .bool => (match boolS a, boolS b with
    | some x, some y => some ⟨x = y, inferInstance⟩
    | _, _ => none)
  | .str => (match a, b with
    | .f (.str x), .f (.str y) => some ⟨x = y, inferInstance⟩
    | _, _ => none)
def eqCells : List FK → List (SV S) → List (SV S) → Option ((p : Prop) ×' Decidable p)
  | [k], [a], [b] => eqCell k a b
  | k :: ks, a :: l, b :: l' => (match eqCell k a b, eqCells ks l l' with
    | some ⟨p, d⟩, some ⟨q, e⟩ => some ⟨p ∧ q, @instDecidableAnd p q d e⟩
    | _, _ => none)
  | _, _, _ => none
def isNilS : FV S → Bool
  | .nils => true
  | _ => false
def binS (P : Program) (op : BinOp) (t : TypeId) (x y : SV S) (K : SV S → Prop) : Prop :=
  match x, y with
  | .f (.int k a), .f (.int k' b) => (match op with
    | .shl => 0 ≤ b ∧ K (.f (.int k (k.wrap (a * 2 ^ min b.toNat k.bits))))
    | .shr => 0 ≤ b ∧ K (.f (.int k (a.fdiv (2 ^ min b.toNat k.bits))))
    | .and => bif k == k' then K (.f (.int k (k.wrap (BitVec.ofInt k.bits a &&& BitVec.ofInt k.bits b).toNat))) else False
    | .or => bif k == k' then K (.f (.int k (k.wrap (BitVec.ofInt k.bits a ||| BitVec.ofInt k.bits b).toNat))) else False
    | .xor => bif k == k' then K (.f (.int k (k.wrap (BitVec.ofInt k.bits a ^^^ BitVec.ofInt k.bits b).toNat))) else False
    | op => bif k == k' then binI op k a b K else False)
  | .f (.str a), .f (.str b) => binT op a b K
  | .f (.sl _ l), .f .nils => (match P.underlying t with
    | some (.slice _) => (match op with
      | .eql => ∀ n : Bool, (n = true → l = []) → K (.f (.bool n))
      | .neq => ∀ n : Bool, (n = false → l = []) → K (.f (.bool n))
      | _ => False)
    | _ => False)
  | .ref _ _, .f .nilp => (match P.underlying t with
    | some (.pointer _) => (match op with
      | .eql => K (.lit false)
      | .neq => K (.lit true)
      | _ => False)
    | _ => False)
  | .agg l, .agg l' => (match flatQ P t with
    | some ks => bif !P.eqGuardType P.depth t then optK (eqCells ks l l') fun q => (match op with
      | .eql => K (.pb q.1 q.2 false)
      | .neq => K (.pb q.1 q.2 true)
      | _ => False) else False
    | none => False)
  | x, y => match P.underlying t, boolS x, boolS y with
    | some .bool, some a, some b => (match op with
      | .eql => K (.pb (a = b) inferInstance false)
      | .neq => K (.pb (a = b) inferInstance true)
      | _ => False)
    | _, _, _ => False

/-- Parts of a struct or an array, laid over what is there. -/
def fillS (place : Nat → Option (Nat × Nat)) (cells : List (SV S)) : List (Nat × SV S) → Option (List (SV S))
  | [] => some cells
  | (i, s) :: rest => match place i, cellsS s with
    | some (off, n), some cs => bif Nat.beq cs.length n && Nat.ble (off + n) cells.length then fillS place (cells.take off ++ cs ++ cells.drop (off + n)) rest else none
    | _, _ => none

/-- A builtin's result, where it reads no memory that may turn. -/
def lenS (ob : Nat → Option (AO S)) (s : SV S) (K : SV S → Prop) : Prop :=
  match s with
  | .f (.sl _ l) => l.length ≤ 9223372036854775807 → K (.f (.int .i64 ((l.length : Nat) : Int)))
  | .f .nils => K (.f (.int .i64 0))
  | .hnd o => match ob o with
    | some (.vec _ _ l) => l.length ≤ 9223372036854775807 → K (.f (.int .i64 ((l.length : Nat) : Int)))
    | some (.frz _ l) => l.length ≤ 9223372036854775807 → K (.f (.int .i64 ((l.length : Nat) : Int)))
    | _ => False
  | _ => False
def lstS (ob : Nat → Option (AO S)) (s : SV S) : Option ((T : S.C) × List (S.car T)) :=
  match s with
  | .f (.sl T l) => some ⟨T, l⟩
  | .hnd o => match ob o with
    | some (.frz T l) => some ⟨T, l⟩
    | _ => none
  | _ => none

/-- The effect-free operations: which objects are read, and the value. -/
def pureOp (P : Program) (D : Shp S) (e : Operand → SV S) (ob : Nat → Option (AO S)) (lkc : Nat → Nat → SV S) (o : Op) (K : List Nat → SV S → Prop) : Prop :=
  match o with
  | .move x => K [] (e x)
  | .assign x => K [] (e x)
  | .pick c a b => tst (e c) (K [] (e a)) (K [] (e b))
  | .load t x => (match e x with
    | .ref o off => (match ob o with
      | some (.cells _ l) => optK (subS P t (resL (lkc o) 0 l) off) fun s => K [o] s
      | some (.arr _ T N l) => bif Nat.beq off 0 && aggQ P t && hasT P t && Nat.beq (szQ P t) (N * D.size T) then K [o] (.arr T N l) else False
      | _ => False)
    | .eref T o i off => (match ob o with
      | some (.vec _ T' l) => withCast T' T l fun l => ∀ y, l[i]? = some y → optK (subS P t ((D.shape T y).map SV.f) off) fun s => K [o] s
      | _ => False)
    | .aref T N o i off => (match ob o with
      | some (.arr _ T' N' l) => bif Nat.beq N N' then withCast T' T l fun l => ∀ y, l[i]? = some y → optK (subS P t ((D.shape T y).map SV.f) off) fun s => K [o] s else False
      | _ => False)
    | .fptr l off => optK (subS P t (l.map SV.f) off) fun s => K [] s
    | .fap T N l => bif aggQ P t && hasT P t && Nat.beq (szQ P t) (N * D.size T) then K [] (.arr T N l) else False
    | _ => False)
  | .fieldAddr s x i => (match P.underlying s with
    | some (.struct fs) => (match fs[i]? with
      | some fld => bif hasT P fld.type && Nat.blt 0 (szQ P fld.type) then (match e x with
        | .ref o off => K [] (.ref o (off + fld.offset))
        | .eref T o i off => K [] (.eref T o i (off + fld.offset))
        | .aref T N o i off => K [] (.aref T N o i (off + fld.offset))
        | .fptr l off => K [] (.fptr l (off + fld.offset))
        | _ => False) else False
      | none => False)
    | _ => False)
  | .nilCheck x => (match e x with
    | .ref o off => K [] (.ref o off)
    | .eref T o i off => K [] (.eref T o i off)
    | .aref T N o i off => K [] (.aref T N o i off)
    | .fptr l off => K [] (.fptr l off)
    | .fap T N l => K [] (.fap T N l)
    | .fn g a b => K [] (.fn g a b)
    | _ => False)
  | .indexAddr t x j => (match e j with
    | .f (.int .i64 i) => (match P.underlying t with
      | some (.slice el) => bif hasT P el then (match lstS ob (e x) with
        | some ⟨T, l⟩ => bif Nat.beq (szQ P el) (D.size T) then (0 ≤ i ∧ i < ((l.length : Nat) : Int)) ∧ ∀ y, l[i.toNat]? = some y → K [] (.fptr (D.shape T y) 0) else False
        | none => (match e x with
          | .hnd o => (match ob o with
            | some (.vec _ T l) => bif Nat.beq (szQ P el) (D.size T) then (0 ≤ i ∧ i < ((l.length : Nat) : Int)) ∧ K [] (.eref T o i.toNat 0) else False
            | _ => False)
          | _ => False)) else False
      | some (.array n el) => bif hasT P el then (match e x with
        | .ref o off => (match ob o with
          | some (.arr _ T N _) => bif Nat.beq off 0 && Nat.beq (szQ P el) (D.size T) && Nat.beq n N then (0 ≤ i ∧ i < (n : Int)) ∧ K [] (.aref T N o i.toNat 0) else False
          | some (.cells _ _) => bif Nat.blt i.toNat n && decide (0 ≤ i) then K [] (.ref o (off + i.toNat * szQ P el)) else False
          | _ => False)
        | .fap T N l => bif Nat.beq (szQ P el) (D.size T) && Nat.beq n N then (0 ≤ i ∧ i < (n : Int)) ∧ ∀ y, l[i.toNat]? = some y → K [] (.fptr (D.shape T y) 0) else False
        | _ => False) else False
      | _ => False)
    | _ => False)
  | .field s x i => (match P.underlying s, e x with
    | some (.struct fs), .agg l => (match fs[i]? with
      | some fld => optK (subS P fld.type l fld.offset) fun s => K [] s
      | none => False)
    | _, _ => False)
  | .index t x j => (match e j with
    | .f (.int .i64 i) => (match P.underlying t, e x with
      | some (.array n el), .arr T N l => bif hasT P el && !aggQ P el && Nat.beq (szQ P el) (D.size T) && Nat.beq n N then (0 ≤ i ∧ i < (n : Int)) ∧ ∀ y, l[i.toNat]? = some y → optK (subS P el ((D.shape T y).map SV.f) 0) fun s => K [] s else False
      | some .string, .f (.str s) => (0 ≤ i ∧ i < ((s.size : Nat) : Int)) ∧ ∀ b, s[i.toNat]? = some b → K [] (.f (.int .u8 ((b.toNat : Nat) : Int)))
      | _, _ => False)
    | _ => False)
  | .extract x i => (match e x with
    | .tup l => optK l[i]? fun s => K [] s
    | _ => False)
  | .makeFunc (.func g) a b => K [] (.fn g (a.toList.map e) (b.toList.map e))
  | .binOp op t x y _ => binS P op t (e x) (e y) (K [])
  | .unOp .not _ x => (match e x with
    | .lit b => K [] (.lit (!b))
    | .f (.bool b) => K [] (.pb (b = true) inferInstance true)
    | .pb p d b => K [] (.pb p d (!b))
    | _ => False)
  | .unOp .neg _ x => (match e x with
    | .f (.int k a) => arith k (0 - a) (K [])
    | _ => False)
  | .convert s d x => (match e x, P.underlying s, P.underlying d with
    | .f (.int _ a), some (.int _), some (.int k') => arith k' a (K [])
    | .f (.str a), some .string, some .string => K [] (.f (.str a))
    | _, _, _ => False)
  | .build t parts => (match P.underlying t, (P.info? t).bind (·.zero) with
    | some (.struct fs), some z => bif z.cells.toList.all isZ && fs.toList.all (fun f => hasT P f.type) then
        optK (fillS (fun i => (fs[i]?).map fun f => (f.offset, szQ P f.type)) (z.cells.toList.map fun v => SV.f (ofZero v)) (parts.toList.map fun q => (q.1, e q.2))) fun l => K [] (.agg l) else False
    | some (.array _ el), some z => bif z.cells.toList.all isZ && hasT P el then
        optK (fillS (fun i => some (i * szQ P el, szQ P el)) (z.cells.toList.map fun v => SV.f (ofZero v)) (parts.toList.map fun q => (q.1, e q.2))) fun l => K [] (.agg l) else False
    | _, _ => False)
  | .slice t x lo hi none => (match P.underlying t with
    | some .string => (match e x with
      | .f (.str s) => (match (match lo with | none => some (0 : Int) | some o => match e o with | .f (.int .i64 i) => some i | _ => none), (match hi with | none => some ((s.size : Nat) : Int) | some o => match e o with | .f (.int .i64 i) => some i | _ => none) with
        | some l, some h => (0 ≤ l ∧ l ≤ h ∧ h ≤ ((s.size : Nat) : Int)) ∧ K [] (.f (.str (s.extract l.toNat h.toNat)))
        | _, _ => False)
      | _ => False)
    | some (.slice el) => (match lstS ob (e x) with
      | some ⟨T, li⟩ => bif hasT P el && Nat.beq (szQ P el) (D.size T) then (match (match lo with | none => some (0 : Int) | some o => match e o with | .f (.int .i64 i) => some i | _ => none), (match hi with | none => some ((li.length : Nat) : Int) | some o => match e o with | .f (.int .i64 i) => some i | _ => none) with
        | some l, some h => (0 ≤ l ∧ l ≤ h ∧ h ≤ ((li.length : Nat) : Int)) ∧ K [] (.f (.sl T ((li.take h.toNat).drop l.toNat)))
        | _, _ => False) else False
      | none => False)
    | _ => False)
  | .call ⟨.builtin .len, args, ts⟩ => (match args.toList, ts.toList with
    | [x], [t] => (match P.underlying t with
      | some (.slice _) => lenS ob (e x) (K [])
      | some .string => (match e x with
        | .f (.str s) => K [] (.f (.int .i64 ((s.size : Nat) : Int)))
        | _ => False)
      | _ => False)
    | _, _ => False)
  | .call ⟨.builtin .min, args, _⟩ => (match args.toList with
    | [x, y] => (match e x, e y with
      | .f (.int k a), .f (.int k' b) => bif k == k' then K [] (.f (.int k (min a b))) else False
      | _, _ => False)
    | [x, y, z] => (match e x, e y, e z with
      | .f (.int k a), .f (.int k' b), .f (.int k'' c) => bif k == k' && k == k'' then K [] (.f (.int k (min (min a b) c))) else False
      | _, _, _ => False)
    | _ => False)
  | .call ⟨.builtin .max, args, _⟩ => (match args.toList with
    | [x, y] => (match e x, e y with
      | .f (.int k a), .f (.int k' b) => bif k == k' then K [] (.f (.int k (max a b))) else False
      | _, _ => False)
    | _ => False)
  | .lookup t m x ok => (match D.mcode t, P.underlying t, e m with
    | some (Kc, V), some (.map _ et), .hnd o => (match ob o, keyS (e x) with
      | some (.map K' V' F), some ks => optK (toFs ob ks) fun q => bif q.2.isEmpty then optK (D.bld Kc q.1) fun k => withMap K' V' F Kc V fun F =>
          optK (subS P et ((D.shape V ((F k).getD (D.zero V))).map SV.f) 0) fun s => (match ok with
            | true => K [o] (.tup [s, .f (.bool (F k).isSome)])
            | false => K [o] s) else False
      | _, _ => False)
    | _, _, _ => False)
  | .entry x => (match e x with
    | .ref o 0 => (match ob o with
      | some (.iter Kc V _ _ (some (k, y))) => K [o] (.tup [svOf (D.shape Kc k), svOf (D.shape V y)])
      | _ => False)
    | _ => False)
  | _ => False

/-- Is this operation one of the effect-free ones? -/
def isPure : Op → Bool
  | .move _ => true
  | .assign _ => true
  | .pick .. => true
  | .load .. => true
  | .fieldAddr .. => true
  | .nilCheck _ => true
  | .indexAddr .. => true
  | .field .. => true
  | .index .. => true
  | .extract .. => true
  | .makeFunc .. => true
  | .binOp .. => true
  | .unOp .. => true
  | .convert .. => true
  | .build .. => true
  | .slice .. => true
  | .lookup .. => true
  | .entry _ => true
  | .call ⟨.builtin .len, _, _⟩ => true
  | .call ⟨.builtin .min, _, _⟩ => true
  | .call ⟨.builtin .max, _, _⟩ => true
  | _ => false


/-- Which lists are frozen. -/
def frzs (ob : Nat → Option (AO S)) : List Nat → Option (List (Nat × AO S))
  | [] => some []
  | o :: l => bif hasN l o then none else match ob o, frzs ob l with
    | some (.vec _ T x), some r => some ((o, .frz T x) :: r)
    | _, _ => none
def noLk : List (SV S) → Bool
  | [] => true
  | .lk :: _ => false
  | _ :: l => noLk l
/-- The elements of a literal. -/
def litEls (D : Shp S) (ob : Nat → Option (AO S)) (T : S.C) : List (SV S) → Option (List (S.car T) × List Nat)
  | [] => some ([], [])
  | s :: l => match cellsS s with
    | some cs => match toFs ob cs with
      | some (xs, a) => match D.bld T xs, litEls D ob T l with
        | some y, some (ys, b) => some (y :: ys, a ++ b)
        | _, _ => none
      | none => none
    | none => none
def inOrder : Nat → List (Nat × Operand) → Bool
  | _, [] => true
  | i, (j, _) :: l => Nat.beq i j && inOrder (i + 1) l
def intQ : SV S → Option Int
  | .f (.int .i64 i) => some i
  | _ => none

/-- The list that an append grows. -/
def ownQ (el : TypeId) (T : S.C) (ob : Nat → Option (AO S)) : SV S → Option (List Nat × List (S.car T))
  | .f .nils => some ([], [])
  | .hnd o => match ob o with
    | some (.vec e T' l) => bif Nat.beq e el then (match S.dec T' T with | isTrue h => some ([o], h ▸ l) | isFalse _ => none) else none
    | _ => none
  | _ => none
/-- The list that is appended. -/
def srcQ (el : TypeId) (T : S.C) (ob : Nat → Option (AO S)) : SV S → Option (List Nat × List (S.car T))
  | .f .nils => some ([], [])
  | .f (.sl T' l) => match S.dec T' T with | isTrue h => some ([], h ▸ l) | isFalse _ => none
  | .hnd o => match ob o with
    | some (.vec e T' l) => bif Nat.beq e el then (match S.dec T' T with | isTrue h => some ([o], h ▸ l) | isFalse _ => none) else none
    | some (.frz T' l) => match S.dec T' T with | isTrue h => some ([], h ▸ l) | isFalse _ => none
    | _ => none
  | _ => none

/-- The operations with an effect: which objects are touched, what they become, and the value. -/
def effOp (P : Program) (D : Shp S) (e : Operand → SV S) (ob : Nat → Option (AO S)) (nx : Nat) (o : Op) (K : List Nat → List (Nat × AO S) → Option (SV S) → Prop) : Prop :=
  match o with
  | .alloc t => (match D.acode t with
    | some (T, N) => K [] [(nx, .arr t T N (List.replicate N (D.zero T)))] (some (.ref nx 0))
    | none => (match (P.info? t).bind (·.zero) with
      | some z => bif z.cells.toList.all isZ then K [] [(nx, .cells t (z.cells.toList.map fun v => SV.f (ofZero v)))] (some (.ref nx 0)) else False
      | none => False))
  | .box t x => (match e x with
    | .arr T N l => K [] [(nx, .arr t T N l)] (some (.ref nx 0))
    | s => optK (cellsS s) fun l => K [] [(nx, .cells t l)] (some (.ref nx 0)))
  | .store t a x => (match e a with
    | .ref o off => (match ob o with
      | some (.cells ty l) => optK (cellsS (e x)) fun cs => bif hasT P t && Nat.beq (szQ P t) cs.length && Nat.ble (off + cs.length) l.length && noLk ((l.drop off).take cs.length) then
          K [o] [(o, .cells ty (l.take off ++ cs ++ l.drop (off + cs.length)))] none else False
      | some (.arr ty T N _) => (match e x with
        | .arr T' N' l' => bif Nat.beq off 0 && Nat.beq N N' && hasT P t && Nat.beq (szQ P t) (N * D.size T) then withCast T' T l' fun l' => K [o] [(o, .arr ty T N l')] none else False
        | _ => False)
      | _ => False)
    | .eref T o i off => (match ob o with
      | some (.vec ety T' l) => withCast T' T l fun l => optK (cellsS (e x)) fun cs => optK (toFs ob cs) fun q => optK (frzs ob q.2) fun fz => bif hasT P t && Nat.beq (szQ P t) cs.length && Nat.ble (off + cs.length) (D.size T) && !hasN q.2 o then
          ∀ y, l[i]? = some y → optK (D.bld T ((D.shape T y).take off ++ q.1 ++ (D.shape T y).drop (off + cs.length))) fun y' => K (o :: q.2) ((o, .vec ety T (l.set i y')) :: fz) none else False
      | _ => False)
    | .aref T N o i off => (match ob o with
      | some (.arr ty T' N' l) => bif Nat.beq N N' then withCast T' T l fun l => optK (cellsS (e x)) fun cs => optK (toFs ob cs) fun q => bif q.2.isEmpty && hasT P t && Nat.beq (szQ P t) cs.length && Nat.ble (off + cs.length) (D.size T) then
          ∀ y, l[i]? = some y → optK (D.bld T ((D.shape T y).take off ++ q.1 ++ (D.shape T y).drop (off + cs.length))) fun y' => K [o] [(o, .arr ty T N' (l.set i y'))] none else False else False
      | _ => False)
    | _ => False)
  | .makeMap t none => (match D.mcode t with
    | some (Kc, V) => K [] [(nx, .map Kc V fun _ => none)] (some (.hnd nx))
    | none => False)
  | .mapUpdate t m x v => (match D.mcode t, e m, keyS (e x), keyS (e v) with
    | some (Kc, V), .hnd o, some ks, some vs => (match ob o with
      | some (.map K' V' F) => optK (toFs ob ks) fun q => optK (toFs ob vs) fun q' => optK (frzs ob q'.2) fun fz => bif q.2.isEmpty && !hasN q'.2 o then optK (D.bld Kc q.1) fun k => optK (D.bld V q'.1) fun y => withMap K' V' F Kc V fun F =>
          K (o :: q'.2) ((o, .map Kc V (@put _ _ (D.kdec Kc) F k y)) :: fz) none else False
      | _ => False)
    | _, _, _, _ => False)
  | .buildSlice t len parts => (match P.underlying t with
    | some (.slice el) => (match D.code el with
      | some T => bif hasT P el && Nat.beq (szQ P el) (D.size T) && inOrder 0 parts.toList && Nat.beq parts.size len && Nat.ble (len * szQ P el) 16777216 && ((P.info? el).bind (·.zero)).isSome then
          optK (litEls D ob T (parts.toList.map fun q => e q.2)) fun q => optK (frzs ob q.2) fun fz => K q.2 ((nx, .vec el T q.1) :: fz) (some (.hnd nx)) else False
      | none => False)
    | _ => False)
  | .makeSlice t x y => (match P.underlying t with
    | some (.slice el) => (match D.code el, intQ (e x), intQ (e y) with
      | some T, some a, some b => (match P.info? el with
        | some i => bif hasT P el && Nat.beq i.size (D.size T) && i.zero.isSome && Nat.ble i.bytes 32768 then (0 ≤ a ∧ a = b ∧ Sml a.toNat) ∧ K [] [(nx, .vec el T (List.replicate a.toNat (D.zero T)))] (some (.hnd nx)) else False
        | none => False)
      | _, _, _ => False)
    | _ => False)
  | .call ⟨.builtin .append, args, ts⟩ => (match args.toList, ts.toList with
    | [x, y], [t, t'] => bif Nat.beq t t' then (match P.underlying t with
      | some (.slice el) => (match D.code el, P.info? el with
        | some T, some i => bif hasT P el && Nat.beq i.size (D.size T) && i.zero.isSome && Nat.ble i.bytes 32768 then
            (match ownQ el T ob (e x), srcQ el T ob (e y) with
            | some (a, l), some (b, l') => bif (match a, b with | [o], [o'] => !Nat.beq o o' | _, _ => true) then
                Sml (l ++ l').length ∧ K (a ++ b) ((nx, .vec el T (l ++ l')) :: (match b with | [o'] => [(o', .vec el T l')] | _ => [])) (some (.hnd nx)) else False
            | _, _ => False) else False
        | _, _ => False)
      | _ => False) else False
    | _, _ => False)
  | .slice t x none (some r) none => (match P.underlying t, e x, intQ (e r) with
    | some (.slice el), .hnd o, some i => (match ob o with
      | some (.vec ety T l) => bif hasT P el && Nat.beq (szQ P el) (D.size T) && Nat.beq ety el then (0 ≤ i ∧ i ≤ ((l.length : Nat) : Int)) ∧ K [o] [(nx, .vec ety T (l.take i.toNat))] (some (.hnd nx)) else False
      | _ => False)
    | _, _, _ => False)
  | .range t x => (match D.mcode t, e x with
    | some (Kc, V), .hnd o => (match ob o with
      | some (.map K' V' F) => withMap K' V' F Kc V fun F => ∀ ks : List (S.car Kc), Keys F ks → K [o] [(nx, .iter Kc V F [] none)] (some (.ref nx 0))
      | _ => False)
    | _, _ => False)
  | .next x false => (match e x with
    | .ref o 0 => (match ob o with
      | some (.iter Kc V F done _) => (AllIn F done → K [o] [(o, .iter Kc V F done none)] (some (.tup [.lit false]))) ∧
          ∀ k y, F k = some y → NotIn k done → K [o] [(o, .iter Kc V F (k :: done) (some (k, y)))] (some (.tup [.lit true, svOf (D.shape Kc k), svOf (D.shape V y)]))
      | _ => False)
    | _ => False)
  | _ => False

end Go.Fx
