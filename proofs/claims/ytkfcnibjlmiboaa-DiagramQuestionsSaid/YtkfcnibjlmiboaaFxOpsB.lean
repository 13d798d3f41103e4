/- The effect-free operations do what their plain meaning says (more of them). Conditions: those in the statements. -/
import Derived.Test.YtkfcnibjlmiboaaFxOps
import Derived.Test.YtkfcnibjlmiboaaFxKey
import Derived.Laws.Pointers
namespace Go.Fx
open Go Go.RowKit Go.Fl Go.Fl.Lk
variable {S : Sig} {P : Program} {D : Shp S} {ν : Nm} {σ : Hv} {n : Nat} {f : Fr}
variable {w : World} {e : Operand → SV S} {ob : Nat → Option (AO S)} {lkc : Nat → Nat → SV S} {oh : Nat → HObj} {K : List Nat → SV S → Prop}

theorem rep_int {v : Value} {k : IntKind} {a : Int} (h : SRep D ν σ v (.f (.int k a))) : v = .int k a := by
  cases h with
  | f h => cases h; rfl
theorem rep_str {v : Value} {a : ByteArray} (h : SRep D ν σ v (.f (.str a))) : v = .string a := by
  cases h with
  | f h => cases h; rfl

/-- A list that may only be read. -/
theorem lst_ok {x : Operand} {T : S.C} {l : List (S.car T)} (k : Kn D ν σ n f w e ob lkc oh) (h : lstS ob (e x) = some ⟨T, l⟩) : RepF D σ (ev n f x) (.sl T l) := by
  have hx := k.e x
  generalize hvx : ev n f x = vx at hx
  generalize e x = sx at h hx
  cases hx with
  | f hf =>
    cases hf with
    | sl T' l' a cap c h1 h2 h3 h4 =>
      simp only [lstS] at h
      cases h
      exact .sl _ _ a cap c h1 h2 h3 h4
    | _ => cases h
  | hnd o v hν h1 =>
    simp only [lstS] at h
    cases ho : ob o with
    | none => rw [ho] at h; cases h
    | some a =>
      rw [ho] at h
      obtain ⟨hR, hok⟩ := k.o o a ho
      cases a with
      | frz T' l' =>
        cases h
        obtain ⟨v', hν', _, hr⟩ := hR
        rw [hν] at hν'; cases hν'
        exact hr
      | _ => cases h
  | _ => cases h

theorem run_iaddr {st el : TypeId} {x y : Operand} {i : Int} {a : Addr} {len cap : Nat} (hx : ev n f x = .slice (some a) len cap) (hy : ev n f y = .int .i64 i) (h0 : 0 ≤ i) (hk : i < (len : Int))
    (hu : P.underlying st = some (.slice el)) (hT : hasT P el = true) (w : World) {oo : Oper} (ho : oo.op = .indexAddr st x y) :
    (execOp (ev n f) oo).run P w = .ok (.value (.pointer (some (a.add (i.toNat * szQ P el))))) w := by
  simp [execOp, ho, hx, hy, Instr.indexAt, asIntOf, run_underlying hu, run_szQ hT, h0, hk]
theorem run_iaddrA {st el : TypeId} {x y : Operand} {i : Int} {a : Addr} {len : Nat} (hx : ev n f x = .pointer (some a)) (hy : ev n f y = .int .i64 i) (h0 : 0 ≤ i) (hk : i < (len : Int))
    (hu : P.underlying st = some (.array len el)) (hT : hasT P el = true) (w : World) {oo : Oper} (ho : oo.op = .indexAddr st x y) :
    (execOp (ev n f) oo).run P w = .ok (.value (.pointer (some (a.add (i.toNat * szQ P el))))) w := by
  simp [execOp, ho, hx, hy, Instr.indexAt, asIntOf, run_underlying hu, run_szQ hT, h0, hk, Instr.sureAddr]

theorem p_indexAddr {t : TypeId} {x j : Operand} (hD : D.Ok) (k : Kn D ν σ n f w e ob lkc oh) (h : pureOp P D e ob lkc (.indexAddr t x j) K) : PureOk P D ν σ ob oh (ev n f) (.indexAddr t x j) K := by
  simp only [pureOp] at h
  split at h
  case h_2 => exact h.elim
  rename_i _ i hj
  have hj' := rep_int (hj ▸ k.e j)
  split at h
  · rename_i el hu
    obtain ⟨hT, h⟩ := bif_f h
    split at h
    · rename_i T l hl
      obtain ⟨hsz, ⟨h0, h1⟩, h⟩ := bif_f h
      have hsz := Nat.eq_of_beq_eq_true hsz
      obtain ⟨y, hy⟩ := getq (l := l) (k := i.toNat) (by omega)
      obtain ⟨a, cap, hv, _, _, hel⟩ := (lst_ok k hl).toRSl hD
      obtain ⟨ad, cs, ha, hcl, hrow, hR⟩ := hel _ y hy
      subst ha
      refine ⟨_, _, _, h y hy, .fptr (ad.add (i.toNat * D.size T)) cs _ 0 hrow hR, fun w oo hoo _ _ => ?_⟩
      rw [run_iaddr hv hj' h0 h1 hu hT w hoo, hsz]
      simp [Addr.add]
    · rename_i hl
      have hx := k.e x
      generalize hvx : ev n f x = vx at hx
      generalize e x = sx at h hx
      cases hx with
      | hnd o v hν hone =>
        simp only at h
        cases ho : ob o with
        | none => rw [ho] at h; exact h.elim
        | some a =>
          rw [ho] at h
          obtain ⟨hR, hok⟩ := k.o o a ho
          cases a with
          | vec ety T l =>
            obtain ⟨hsz, ⟨h0, h1⟩, h⟩ := bif_f h
            have hsz := Nat.eq_of_beq_eq_true hsz
            obtain ⟨v', xs, hν', hh, hE, _⟩ := hR
            rw [hν] at hν'; cases hν'
            rw [hh] at hok
            obtain ⟨g, cap, rfl⟩ := vec_pos hok (by omega)
            refine ⟨_, _, _, h, .eref T o i.toNat 0 g l.length cap hν (by omega), fun w oo hoo _ _ => ?_⟩
            rw [run_iaddr hvx hj' h0 h1 hu hT w hoo, hsz, add_lit, Nat.zero_add, Nat.add_zero]
          | _ => exact h.elim
      | _ => exact h.elim
  · rename_i len el hu
    obtain ⟨hT, h⟩ := bif_f h
    have hx := k.e x
    generalize hvx : ev n f x = vx at hx
    generalize e x = sx at h hx
    cases hx with
    | ref o off b hν =>
      simp only at h
      cases ho : ob o with
      | none => rw [ho] at h; exact h.elim
      | some a =>
        rw [ho] at h
        obtain ⟨hR, hok⟩ := k.o o a ho
        cases a with
        | arr ty T N l =>
          obtain ⟨hc, ⟨h0, h1⟩, h⟩ := bif_f h
          obtain ⟨hc, hN⟩ := and_b hc
          obtain ⟨hc, hsz⟩ := and_b hc
          have hc := Nat.eq_of_beq_eq_true hc
          have hN := Nat.eq_of_beq_eq_true hN
          have hsz := Nat.eq_of_beq_eq_true hsz
          refine ⟨_, _, _, h, .aref T N o i.toNat 0 b hν (by omega), fun w oo hoo _ _ => ?_⟩
          rw [run_iaddrA hvx hj' h0 h1 hu hT w hoo, hsz, add_lit, hc, Nat.zero_add, Nat.add_zero]
        | cells ty l =>
          obtain ⟨hc, h⟩ := bif_f h
          obtain ⟨hlt, h0⟩ := and_b hc
          have h0 : 0 ≤ i := of_decide_eq_true h0
          have hlt : i.toNat < len := by rw [← Nat.blt_eq]; exact hlt
          refine ⟨_, _, _, h, .ref o _ b hν, fun w oo hoo _ _ => ?_⟩
          rw [run_iaddrA hvx hj' h0 (by omega) hu hT w hoo, add_lit]
        | _ => exact h.elim
    | fap ad cs T N l hN hrow hl hr =>
      obtain ⟨hc, ⟨h0, h1⟩, h⟩ := bif_f h
      obtain ⟨hsz, hN'⟩ := and_b hc
      have hN' := Nat.eq_of_beq_eq_true hN'
      have hsz := Nat.eq_of_beq_eq_true hsz
      obtain ⟨y, hy⟩ := getq (l := l) (k := i.toNat) (by omega)
      refine ⟨_, _, _, h y hy, .fptr (ad.add (i.toNat * D.size T)) _ _ 0 (VRow.part hrow rfl) (hr _ y hy), fun w oo hoo _ _ => ?_⟩
      rw [run_iaddrA hvx hj' h0 h1 hu hT w hoo, hsz]
      simp [Addr.add]
    | _ => exact h.elim
  · exact h.elim

theorem p_field {s : TypeId} {x : Operand} {i : Nat} (k : Kn D ν σ n f w e ob lkc oh) (h : pureOp P D e ob lkc (.field s x i) K) : PureOk P D ν σ ob oh (ev n f) (.field s x i) K := by
  simp only [pureOp] at h
  split at h
  case h_2 => exact h.elim
  rename_i fs l hu hx
  split at h
  case h_2 => exact h.elim
  rename_i fld hf
  obtain ⟨s', hs, hK⟩ := optK_some h
  have hr := hx ▸ k.e x
  generalize hvx : ev n f x = vx at hr
  cases hr with
  | agg cs _ hl h1 h2 =>
    obtain ⟨v, hv, _, hp⟩ := sub_ok (D := D) (ν := ν) (σ := σ) (cs := cs) ⟨hl, h1, h2⟩ hs
    exact ⟨_, _, v, hK, hv, fun w oo hoo _ _ => by simp [execOp, hoo, hvx, Instr.field, run_underlying hu, hf, asAgg, hp]⟩

theorem p_extract {x : Operand} {i : Nat} (k : Kn D ν σ n f w e ob lkc oh) (h : pureOp P D e ob lkc (.extract x i) K) : PureOk P D ν σ ob oh (ev n f) (.extract x i) K := by
  simp only [pureOp] at h
  split at h
  case h_2 => exact h.elim
  rename_i l hx
  obtain ⟨s', hs, hK⟩ := optK_some h
  have hr := hx ▸ k.e x
  generalize hvx : ev n f x = vx at hr
  cases hr with
  | tup cs _ hl h1 =>
    obtain ⟨v, hv⟩ := getq (l := cs) (k := i) (by rw [hl]; exact lt_of_getq hs)
    exact ⟨_, _, v, hK, h1 _ v s' hv hs, fun w oo hoo _ _ => by simp [execOp, hoo, hvx, Instr.extract, hv]⟩

theorem p_makeFunc {g : FuncId} {a b : Array Operand} (k : Kn D ν σ n f w e ob lkc oh) (h : pureOp P D e ob lkc (.makeFunc (.func g) a b) K) : PureOk P D ν σ ob oh (ev n f) (.makeFunc (.func g) a b) K := by
  have hm : ∀ (a : Array Operand) (j : Nat) v s, (a.toList.map (ev n f))[j]? = some v → (a.toList.map e)[j]? = some s → SRep D ν σ v s := by
    intro a j v s hv hs
    rw [List.getElem?_map] at hv hs
    rcases hq : a.toList[j]? with _ | x
    · rw [hq] at hv; cases hv
    · rw [hq] at hv hs; cases hv; cases hs
      exact k.e x
  refine ⟨_, _, .func (.func g) (a.toList.map (ev n f)).toArray (b.toList.map (ev n f)).toArray, h, .fn g _ _ _ _ (by simp) (hm a) (by simp) (hm b), fun w oo hoo _ _ => ?_⟩
  have e1 : ∀ a : Array Operand, (a.toList.map (ev n f)).toArray = a.map (ev n f) := by intro a; apply Array.ext'; simp
  rw [e1, e1]
  simp [execOp, hoo, Instr.makeFunc]

theorem arith_ok {k : IntKind} {r : Int} {K' : SV S → Prop} (h : arith k r K') : ∃ r', K' (.f (.int k r')) ∧ k.wrap r = r' := by
  unfold arith at h
  split at h
  · exact ⟨_, h.2, nwi rfl h.1⟩
  · exact ⟨_, h, rfl⟩

def BinOk (P : Program) (D : Shp S) (ν : Nm) (σ : Hv) (r : Operand → Value) (o : Op) (K : SV S → Prop) : Prop :=
  ∃ s v, K s ∧ SRep D ν σ v s ∧ ∀ (w : World) (oo : Oper), oo.op = o → (execOp r oo).run P w = .ok (.value v) w

theorem binI_ok {op : BinOp} {t u : TypeId} {x y : Operand} {k : IntKind} {a b : Int} {K : SV S → Prop} (hx : ev n f x = .int k a) (hy : ev n f y = .int k b) (h : binI op k a b K) :
    BinOk P D ν σ (ev n f) (.binOp op t x y u) K := by
  have run : ∀ (w : World) (oo : Oper) (v : Value), oo.op = .binOp op t x y u → (binOp op t (.int k a) (.int k b)).run P w = .ok v w → (execOp (ev n f) oo).run P w = .ok (.value v) w := by
    intro w oo v ho hr
    have hg : (eqGuard op t x y (.int k a) (.int k b)).run P w = .ok () w := by
      unfold eqGuard
      split <;> simp
    simp [execOp, ho, hx, hy, hg, hr]
  unfold binI at h
  split at h
  · obtain ⟨r, hK, hr⟩ := arith_ok h
    exact ⟨_, _, hK, .f (.int k r), fun w oo ho => run w oo _ ho (by simp [binOp, Op.intArith, hr])⟩
  · obtain ⟨r, hK, hr⟩ := arith_ok h
    exact ⟨_, _, hK, .f (.int k r), fun w oo ho => run w oo _ ho (by simp [binOp, Op.intArith, hr])⟩
  · obtain ⟨r, hK, hr⟩ := arith_ok h
    exact ⟨_, _, hK, .f (.int k r), fun w oo ho => run w oo _ ho (by simp [binOp, Op.intArith, hr])⟩
  · obtain ⟨r, hK, hr⟩ := arith_ok h.2
    exact ⟨_, _, hK, .f (.int k r), fun w oo ho => run w oo _ ho (by simp [binOp, Op.intDiv, hr, h.1])⟩
  · exact ⟨_, _, h.2, .f (.int k _), fun w oo ho => run w oo _ ho (by simp [binOp, Op.intDiv, h.1])⟩
  · exact ⟨_, _, h, .pb _ _, fun w oo ho => run w oo _ ho (by simp [binOp, Op.intCmp]; by_cases hab : a = b <;> simp [hab])⟩
  · exact ⟨_, _, h, .pbn _ _, fun w oo ho => run w oo _ ho (by simp [binOp, Op.intCmp]; by_cases hab : a = b <;> simp [hab])⟩
  · exact ⟨_, _, h, .pb _ _, fun w oo ho => run w oo _ ho (by simp [binOp, Op.intCmp])⟩
  · exact ⟨_, _, h, .pb _ _, fun w oo ho => run w oo _ ho (by simp [binOp, Op.intCmp])⟩
  · exact ⟨_, _, h, .pb _ _, fun w oo ho => run w oo _ ho (by simp [binOp, Op.intCmp])⟩
  · exact ⟨_, _, h, .pb _ _, fun w oo ho => run w oo _ ho (by simp [binOp, Op.intCmp])⟩
  · exact h.elim

theorem binT_ok {op : BinOp} {t u : TypeId} {x y : Operand} {a b : ByteArray} {K : SV S → Prop} (hx : ev n f x = .string a) (hy : ev n f y = .string b) (h : binT op a b K) :
    BinOk P D ν σ (ev n f) (.binOp op t x y u) K := by
  have run : ∀ (w : World) (oo : Oper) (v : Value), oo.op = .binOp op t x y u → (Op.stringOp op a b).run P w = .ok v w → (op ≠ .shl ∧ op ≠ .shr) → (execOp (ev n f) oo).run P w = .ok (.value v) w := by
    intro w oo v ho hr hs
    have hg : (eqGuard op t x y (.string a) (.string b)).run P w = .ok () w := by
      unfold eqGuard
      split <;> simp
    have hb : (binOp op t (.string a) (.string b)).run P w = .ok v w := by
      cases op <;> first | exact hr | exact absurd rfl hs.1 | exact absurd rfl hs.2
    simp [execOp, ho, hx, hy, hg, hb]
  have lt : Op.bytesLess a.toList b.toList = decide (blt a b) := less_blt a b
  unfold binT at h
  split at h
  · have h1 : ¬ ((a.size + b.size : Nat) : Int) > IntKind.i64.max := by
      have : IntKind.i64.max = 9223372036854775807 := rfl
      rw [this]; omega
    exact ⟨_, _, h.2, .f (.str (a ++ b)), fun w oo ho => run w oo _ ho (by simp only [Op.stringOp, if_neg h1]; rfl) (by simp)⟩
  · exact ⟨_, _, h, .pb _ _, fun w oo ho => run w oo _ ho (by simp [Op.stringOp, bytes_beq]) (by simp)⟩
  · exact ⟨_, _, h, .pbn _ _, fun w oo ho => run w oo _ ho (by simp [Op.stringOp, bytes_beq]) (by simp)⟩
  · exact ⟨_, _, h, .pb _ _, fun w oo ho => run w oo _ ho (by simp only [Op.stringOp, lt]; rfl) (by simp)⟩
  · refine ⟨_, _, h, .pbn _ _, fun w oo ho => run w oo _ ho ?_ (by simp)⟩
    have := geq_blt a b
    simp only [Op.stringOp, lt, bytes_beq]
    rw [show (decide (blt a b) || decide (a = b)) = !decide (blt b a) by rw [← this]; simp]
    rfl
  · refine ⟨_, _, h, .pb _ _, fun w oo ho => run w oo _ ho ?_ (by simp)⟩
    have := geq_blt a b
    simp only [Op.stringOp, lt, bytes_beq, this]
    rfl
  · refine ⟨_, _, h, .pbn _ _, fun w oo ho => run w oo _ ho ?_ (by simp)⟩
    simp only [Op.stringOp, lt]
    rfl
  · exact h.elim

theorem bool_ok {s : SV S} {v : Value} {b : Bool} (hs : SRep D ν σ v s) (h : boolS s = some b) : v = .bool b := by
  cases hs with
  | lit c => cases h; rfl
  | f hf =>
    cases hf with
    | bool c => cases h; rfl
    | _ => cases h
  | pb p d => cases h; rfl
  | pbn p d => cases h; rfl
  | _ => cases h

theorem shift_ok {op : BinOp} {t u : TypeId} {x y : Operand} {k k' : IntKind} {a b r : Int} {K : SV S → Prop} (hx : ev n f x = .int k a) (hy : ev n f y = .int k' b)
    (hop : op = .shl ∧ r = k.wrap (a * 2 ^ min b.toNat k.bits) ∨ op = .shr ∧ r = a.fdiv (2 ^ min b.toNat k.bits)) (hb : 0 ≤ b) (h : K (.f (.int k r))) : BinOk P D ν σ (ev n f) (.binOp op t x y u) K := by
  have hb' : ¬ b < 0 := by omega
  refine ⟨_, _, h, .f (.int k r), fun w oo ho => ?_⟩
  have hg : (eqGuard op t x y (.int k a) (.int k' b)).run P w = .ok () w := by
    unfold eqGuard
    split <;> simp
  rcases hop with ⟨rfl, rfl⟩ | ⟨rfl, rfl⟩ <;> simp [execOp, ho, hx, hy, hg, binOp, Op.shift, hb']

theorem bits_ok {op : BinOp} {t u : TypeId} {x y : Operand} {k k' : IntKind} {a b r : Int} {K : SV S → Prop} (hx : ev n f x = .int k a) (hy : ev n f y = .int k' b) (hk : (k == k') = true)
    (hop : op = .and ∧ r = k.wrap (BitVec.ofInt k.bits a &&& BitVec.ofInt k.bits b).toNat ∨ op = .or ∧ r = k.wrap (BitVec.ofInt k.bits a ||| BitVec.ofInt k.bits b).toNat ∨ op = .xor ∧ r = k.wrap (BitVec.ofInt k.bits a ^^^ BitVec.ofInt k.bits b).toNat)
    (h : K (.f (.int k r))) : BinOk P D ν σ (ev n f) (.binOp op t x y u) K := by
  have hk' : k = k' := by simpa using hk
  subst hk'
  refine ⟨_, _, h, .f (.int k r), fun w oo ho => ?_⟩
  have hg : (eqGuard op t x y (.int k a) (.int k b)).run P w = .ok () w := by
    unfold eqGuard
    split <;> simp
  rcases hop with ⟨rfl, rfl⟩ | ⟨rfl, rfl⟩ | ⟨rfl, rfl⟩ <;> simp only [execOp, ho, hx, hy, binOp, Op.intBits, Sem.run_bind, hg, Result.andThen_ok] <;> simp

theorem rep_nils {v : Value} (h : SRep D ν σ v (.f .nils)) : v = .slice none 0 0 := by
  cases h with
  | f h => cases h; rfl
theorem rep_hnd {v u : Value} {o : Nat} (h : SRep D ν σ v (.hnd o)) (hu : ν o = some u) : v = u := by
  cases h with
  | hnd _ v h _ => rw [hu] at h; cases h; rfl
theorem rep_sl {v : Value} {T : S.C} {l : List (S.car T)} (h : SRep D ν σ v (.f (.sl T l))) : RepF D σ v (.sl T l) := by
  cases h with
  | f h => exact h

theorem eqCell_ok {k : FK} {a b : SV S} {u v : Value} {q : (p : Prop) ×' Decidable p} (h : eqCell k a b = some q) (ha : SRep D ν σ u a) (hb : SRep D ν σ v b) : okV k u ∧ okV k v ∧ (q.1 ↔ u = v) := by
  cases k with
  | int k =>
    simp only [eqCell] at h
    split at h
    case h_2 => cases h
    rename_i k1 x k2 y
    obtain ⟨hc, h'⟩ := bif_some' h
    clear h
    obtain ⟨h1, h2⟩ := and_b hc
    have h1 : k1 = k := by simpa using h1
    have h2 : k2 = k := by simpa using h2
    subst h1 h2
    cases h'
    rw [rep_int ha, rep_int hb]
    exact ⟨⟨_, rfl⟩, ⟨_, rfl⟩, by simp⟩
  | bool =>
    simp only [eqCell] at h
    split at h
    case h_2 => cases h
    rename_i x y hx hy
    cases h
    rw [bool_ok ha hx, bool_ok hb hy]
    exact ⟨⟨_, rfl⟩, ⟨_, rfl⟩, by simp⟩
  | str =>
    simp only [eqCell] at h
    split at h
    case h_2 => cases h
    cases h
    rw [rep_str ha, rep_str hb]
    exact ⟨⟨_, rfl⟩, ⟨_, rfl⟩, by simp⟩
theorem eqCells_ok : ∀ {ks : List FK} {l l' : List (SV S)} {cs cs' : List Value} {q : (p : Prop) ×' Decidable p}, eqCells ks l l' = some q → cs.length = l.length → cs'.length = l'.length → (∀ (j : Nat) v s, cs[j]? = some v → l[j]? = some s → SRep D ν σ v s) →
    (∀ (j : Nat) v s, cs'[j]? = some v → l'[j]? = some s → SRep D ν σ v s) → Conf ks cs ∧ Conf ks cs' ∧ (q.1 ↔ cs = cs')
  | [], l, l', cs, cs', q, h, _, _, _, _ => by simp [eqCells] at h
  | [k], l, l', cs, cs', q, h, h1, h2, h3, h4 => by
    match l, l', h with
    | [a], [b], h =>
      match cs, cs', h1, h2 with
      | [u], [v], _, _ =>
        obtain ⟨x, y, z⟩ := eqCell_ok h (h3 0 u a rfl rfl) (h4 0 v b rfl rfl)
        refine ⟨⟨rfl, fun i k' w hk hw => ?_⟩, ⟨rfl, fun i k' w hk hw => ?_⟩, by rw [z]; simp⟩
        · cases i with
          | zero => cases hk; cases hw; exact x
          | succ i => simp at hk
        · cases i with
          | zero => cases hk; cases hw; exact y
          | succ i => simp at hk
    | [], _, h => simp [eqCells] at h
    | [_], [], h => simp [eqCells] at h
    | _ :: _ :: _, [], h => simp [eqCells] at h
    | [_], _ :: _ :: _, h => simp [eqCells] at h
    | _ :: _ :: _, _ :: _, h => simp [eqCells] at h
  | k :: k' :: ks, l, l', cs, cs', q, h, h1, h2, h3, h4 => by
    match l, l', h with
    | [], _, h => simp [eqCells] at h
    | _ :: _, [], h => simp [eqCells] at h
    | a :: l, b :: l', h =>
      match cs, cs', h1, h2 with
      | u :: cs, v :: cs', h1, h2 =>
        simp only [eqCells] at h
        split at h
        case h_2 => cases h
        rename_i p d q' e hp hq
        cases h
        obtain ⟨x, y, z⟩ := eqCell_ok hp (h3 0 u a rfl rfl) (h4 0 v b rfl rfl)
        obtain ⟨x', y', z'⟩ := eqCells_ok hq (by simpa using h1) (by simpa using h2) (fun j v s hj hs => h3 (j + 1) v s (by simpa using hj) (by simpa using hs)) (fun j v s hj hs => h4 (j + 1) v s (by simpa using hj) (by simpa using hs))
        refine ⟨⟨by have := x'.1; simp at this ⊢; exact this, fun i kk w hk hw => ?_⟩, ⟨by have := y'.1; simp at this ⊢; exact this, fun i kk w hk hw => ?_⟩, ?_⟩
        · cases i with
          | zero => cases hk; cases hw; exact x
          | succ i => exact x'.2 i kk w (by simpa using hk) (by simpa using hw)
        · cases i with
          | zero => cases hk; cases hw; exact y
          | succ i => exact y'.2 i kk w (by simpa using hk) (by simpa using hw)
        · show p ∧ q' ↔ _
          rw [show (p ↔ u = v) from z, show (q' ↔ cs = cs') from z']
          simp
theorem rep_agg {v : Value} {l : List (SV S)} (h : SRep D ν σ v (.agg l)) : ∃ cs : List Value, v = .agg cs.toArray ∧ cs.length = l.length ∧ ∀ (j : Nat) u s, cs[j]? = some u → l[j]? = some s → SRep D ν σ u s := by
  cases h with
  | agg cs ss hl h h1 => exact ⟨cs, rfl, hl, h⟩
theorem p_binOp {op : BinOp} {t u : TypeId} {x y : Operand} (hD : D.Ok) (k : Kn D ν σ n f w e ob lkc oh) (h : pureOp P D e ob lkc (.binOp op t x y u) K) : PureOk P D ν σ ob oh (ev n f) (.binOp op t x y u) K := by
  suffices hs : BinOk P D ν σ (ev n f) (.binOp op t x y u) (K []) by
    obtain ⟨s, v, h1, h2, h3⟩ := hs
    exact ⟨[], s, v, h1, h2, fun w oo ho _ _ => h3 w oo ho⟩
  simp only [pureOp] at h
  have kx := k.e x
  have ky := k.e y
  unfold binS at h
  split at h
  · rename_i k1 a k2 b hx hy
    have hx' := rep_int (hx ▸ kx)
    have hy' := rep_int (hy ▸ ky)
    split at h
    · exact shift_ok hx' hy' (.inl ⟨rfl, rfl⟩) h.1 h.2
    · exact shift_ok hx' hy' (.inr ⟨rfl, rfl⟩) h.1 h.2
    · obtain ⟨hk, h⟩ := bif_f h
      exact bits_ok hx' hy' hk (.inl ⟨rfl, rfl⟩) h
    · obtain ⟨hk, h⟩ := bif_f h
      exact bits_ok hx' hy' hk (.inr (.inl ⟨rfl, rfl⟩)) h
    · obtain ⟨hk, h⟩ := bif_f h
      exact bits_ok hx' hy' hk (.inr (.inr ⟨rfl, rfl⟩)) h
    · obtain ⟨hk, h2⟩ := bif_f h
      have hk' : k1 = k2 := by simpa using hk
      clear h
      subst hk'
      exact binI_ok hx' hy' h2
  · rename_i a b hx hy
    exact binT_ok (rep_str (hx ▸ kx)) (rep_str (hy ▸ ky)) h
  · rename_i T l hx hy
    have hr := rep_sl (hx ▸ kx)
    have hy' : ev n f y = .slice none 0 0 := rep_nils (hy ▸ ky)
    obtain ⟨a, cap, hv, _, _, hel⟩ := hr.toRSl hD
    have hnil : a.isNone = true → l = [] := fun ha => by
      cases l with
      | nil => rfl
      | cons z l =>
        obtain ⟨ad, _, ha', _⟩ := hel 0 z rfl
        subst ha'; cases ha
    split at h
    case h_2 => exact h.elim
    rename_i el hu
    split at h
    · exact ⟨_, _, h a.isNone hnil, .f (.bool _), fun w oo ho => by
        simp [execOp, ho, hv, hy', eqGuard, binOp, Op.equal, Op.maxDepth, Lib.run_equalIn_slice_nil w 9999 t el a l.length cap 0 0 hu]⟩
    · exact ⟨_, _, h (!a.isNone) (fun ha => hnil (by simpa using ha)), .f (.bool _), fun w oo ho => by
        simp [execOp, ho, hv, hy', eqGuard, binOp, Op.equal, Op.maxDepth, Lib.run_equalIn_slice_nil w 9999 t el a l.length cap 0 0 hu]⟩
    · exact h.elim
  · rename_i o off hx hy
    split at h
    case h_2 => exact h.elim
    rename_i el hu
    have kx' : SRep D ν σ (ev n f x) (.ref o off) := hx ▸ kx
    have ky' : SRep D ν σ (ev n f y) (.f .nilp) := hy ▸ ky
    have hu' : P.underlying t = some (.pointer (P.pointee t)) := by rw [hu]; simp [Program.pointee, hu]
    obtain ⟨a, hv⟩ : ∃ a, ev n f x = .pointer (some a) := by
      generalize ev n f x = u at kx'
      cases kx' with
      | ref _ _ b _ => exact ⟨_, rfl⟩
    have hv' : ev n f y = .pointer none := by
      generalize ev n f y = u at ky'
      cases ky' with
      | f hf => cases hf; rfl
    split at h
    · exact ⟨_, _, h, .lit false, fun w oo ho => by
        simp [execOp, ho, hv, hv', eqGuard, binOp, Op.equal, Op.maxDepth, run_equalIn_pointer_nil w 9999 t (some a) hu']⟩
    · exact ⟨_, _, h, .lit true, fun w oo ho => by
        simp [execOp, ho, hv, hv', eqGuard, binOp, Op.equal, Op.maxDepth, run_equalIn_pointer_nil w 9999 t (some a) hu']⟩
    · exact h.elim
  · rename_i l l' hx hy
    split at h
    case h_2 => exact h.elim
    rename_i ks hq
    obtain ⟨hg, h⟩ := bif_f h
    obtain ⟨q, hc, h⟩ := optK_some h
    have kx' : SRep D ν σ (ev n f x) (.agg l) := hx ▸ kx
    have ky' : SRep D ν σ (ev n f y) (.agg l') := hy ▸ ky
    obtain ⟨cs, hv, h1, h2⟩ := rep_agg kx'
    obtain ⟨cs', hv', h1', h2'⟩ := rep_agg ky'
    obtain ⟨c1, c2, hiff⟩ := eqCells_ok hc h1 h1' h2 h2'
    have hg' : P.eqGuardType P.depth t = false := by simpa using hg
    have run : ∀ w, (Op.equalIn 10000 t (.agg cs.toArray) (.agg cs'.toArray)).run P w = .ok (@decide q.1 q.2) w := by
      intro w
      obtain ⟨r, hr, hi⟩ := eq_flat hq c1 c2 9998 w
      rw [hr]
      have : r = @decide q.1 q.2 := by
        cases r with
        | true => exact (@decide_eq_true _ q.2 (hiff.2 (hi.1 rfl))).symm
        | false => exact (@decide_eq_false _ q.2 fun hp => absurd (hi.2 (hiff.1 hp)) (by simp)).symm
      rw [this]
    split at h
    · exact ⟨_, _, h, .pb _ _, fun w oo ho => by
        simp [execOp, ho, hv, hv', run_eqGuard_agg w .eql t x y _ _ hg', run_eql_struct, run w]⟩
    · exact ⟨_, _, h, .pbn _ _, fun w oo ho => by
        simp [execOp, ho, hv, hv', run_eqGuard_agg w .neq t x y _ _ hg', run_neq_struct, run w]⟩
    · exact h.elim
  · split at h
    case h_2 => exact h.elim
    rename_i a b hu ha hb
    have hx' := bool_ok kx ha
    have hy' := bool_ok ky hb
    split at h
    · exact ⟨_, _, h, .pb _ _, fun w oo ho => by
        simp [execOp, ho, hx', hy', eqGuard, run_eql_bool _ _ _ _ hu]
        cases a <;> cases b <;> rfl⟩
    · exact ⟨_, _, h, .pbn _ _, fun w oo ho => by
        simp [execOp, ho, hx', hy', eqGuard, run_neq_bool _ _ _ _ hu]
        cases a <;> cases b <;> rfl⟩
    · exact h.elim

theorem p_not {t : TypeId} {x : Operand} (k : Kn D ν σ n f w e ob lkc oh) (h : pureOp P D e ob lkc (.unOp .not t x) K) : PureOk P D ν σ ob oh (ev n f) (.unOp .not t x) K := by
  simp only [pureOp] at h
  have hx := k.e x
  generalize hvx : ev n f x = vx at hx
  generalize e x = sx at h hx
  cases hx with
  | lit b => exact ⟨_, _, _, h, .lit _, fun w oo ho _ _ => by simp [execOp, ho, hvx, Op.unary]⟩
  | f hf =>
    cases hf with
    | bool b => exact ⟨_, _, _, h, .pbn _ _, fun w oo ho _ _ => by cases b <;> simp [execOp, ho, hvx, Op.unary]⟩
    | _ => exact h.elim
  | pb p d => exact ⟨_, _, _, h, .pbn _ _, fun w oo ho _ _ => by simp [execOp, ho, hvx, Op.unary]⟩
  | pbn p d => exact ⟨_, _, _, h, .pb _ _, fun w oo ho _ _ => by simp [execOp, ho, hvx, Op.unary]⟩
  | _ => exact h.elim
theorem p_neg {t : TypeId} {x : Operand} (k : Kn D ν σ n f w e ob lkc oh) (h : pureOp P D e ob lkc (.unOp .neg t x) K) : PureOk P D ν σ ob oh (ev n f) (.unOp .neg t x) K := by
  simp only [pureOp] at h
  split at h
  case h_2 => exact h.elim
  rename_i kd a hx
  obtain ⟨r, hK, hr⟩ := arith_ok h
  exact ⟨_, _, _, hK, .f (.int kd r), fun w oo ho _ _ => by simp only [execOp, ho, rep_int (hx ▸ k.e x), Op.unary, Op.intArith, hr]; rfl⟩
theorem p_convert {s d : TypeId} {x : Operand} (k : Kn D ν σ n f w e ob lkc oh) (h : pureOp P D e ob lkc (.convert s d x) K) : PureOk P D ν σ ob oh (ev n f) (.convert s d x) K := by
  simp only [pureOp] at h
  split at h
  · rename_i k1 a k2 k' hx h1 h2
    obtain ⟨r, hK, hr⟩ := arith_ok h
    refine ⟨_, _, _, hK, .f (.int k' r), fun w oo ho _ _ => ?_⟩
    subst hr
    simp [execOp, ho, rep_int (hx ▸ k.e x), convert, run_underlying h1, run_underlying h2, Conv.intToInt]
  · rename_i a hx h1 h2
    exact ⟨_, _, _, h, .f (.str a), fun w oo ho _ _ => by simp [execOp, ho, rep_str (hx ▸ k.e x), convert, run_underlying h1, run_underlying h2]⟩
  · exact h.elim

theorem cellsS_ok {v : Value} {s : SV S} {l : List (SV S)} (hs : SRep D ν σ v s) (h : cellsS s = some l) : RowS D ν σ v.cells.toList l := by
  have one : ∀ {v : Value} {s : SV S}, SRep D ν σ v s → v.cells = #[v] → v.oneCell' = true → RowS D ν σ v.cells.toList [s] := by
    intro v s hs hc h1
    rw [hc]
    refine ⟨rfl, fun j u t hj ht => ?_, fun u hu => ?_⟩
    · cases j with
      | zero => cases hj; cases ht; exact hs
      | succ j => cases hj
    · simp at hu; subst hu; exact h1
  cases hs with
  | f hf => cases h; exact one (.f hf) hf.cells hf.one
  | lit b => cases h; exact one (.lit b) rfl rfl
  | pb p d => cases h; exact one (.pb p d) rfl rfl
  | pbn p d => cases h; exact one (.pbn p d) rfl rfl
  | agg cs ss hl h' h1 => cases h; exact ⟨hl, h', h1⟩
  | tup => cases h
  | arr => cases h
  | ref o off b hν => cases h; exact one (.ref o off b hν) rfl rfl
  | eref T o i off b m cap hν hi => cases h; exact one (.eref T o i off b m cap hν hi) rfl rfl
  | aref T N o i off b hν hi => cases h; exact one (.aref T N o i off b hν hi) rfl rfl
  | fptr ad cs l off hr hR => cases h; exact one (.fptr ad cs l off hr hR) rfl rfl
  | fap ad cs T N l hN hr hl hR => cases h; exact one (.fap ad cs T N l hN hr hl hR) rfl rfl
  | hnd o v hν h1 =>
    cases h
    refine one (.hnd o _ hν h1) ?_ h1
    cases v <;> first | rfl | cases h1
  | fn g a b first cap h1 h2 h3 h4 => cases h; exact one (.fn g a b first cap h1 h2 h3 h4) rfl rfl
  | und => cases h
  | dead => cases h

theorem rowS_splice {cs vs : List Value} {l ss : List (SV S)} {off : Nat} (h : RowS D ν σ cs l) (k : RowS D ν σ vs ss) (hle : off + ss.length ≤ l.length) :
    RowS D ν σ (cs.take off ++ vs ++ cs.drop (off + vs.length)) (l.take off ++ ss ++ l.drop (off + ss.length)) := by
  have e1 := h.1
  have e2 := k.1
  refine ⟨by simp only [List.length_append, List.length_take, List.length_drop]; omega, fun j v s hj hs => ?_, fun v hv => ?_⟩
  · have t1 : (cs.take off).length = off := by rw [List.length_take]; omega
    have t2 : (l.take off).length = off := by rw [List.length_take]; omega
    rw [List.append_assoc] at hj hs
    rcases Nat.lt_or_ge j off with hlt | hge
    · rw [List.getElem?_append_left (by omega)] at hj hs
      rw [List.getElem?_take_of_lt hlt] at hj hs
      exact h.2.1 j v s hj hs
    · rw [List.getElem?_append_right (by omega)] at hj hs
      rw [t1] at hj; rw [t2] at hs
      rcases Nat.lt_or_ge (j - off) ss.length with hlt | hge'
      · rw [List.getElem?_append_left (by omega)] at hj hs
        exact k.2.1 _ v s hj hs
      · rw [List.getElem?_append_right (by omega)] at hj hs
        rw [List.getElem?_drop] at hj hs
        have e3 : off + vs.length + (j - off - vs.length) = off + ss.length + (j - off - ss.length) := by omega
        rw [e3] at hj
        exact h.2.1 _ v s hj hs
  · rcases List.mem_append.1 hv with hv | hv
    · rcases List.mem_append.1 hv with hv | hv
      · exact h.2.2 v (List.mem_of_mem_take hv)
      · exact k.2.2 v hv
    · exact h.2.2 v (List.mem_of_mem_drop hv)

theorem setCells_eq (vs : List Value) : ∀ (cs : List Value) (off : Nat), off + vs.length ≤ cs.length →
    ((vs.zipIdx).foldl (fun (a : Array Value) (q : Value × Nat) => a.setIfInBounds (off + q.2) q.1) cs.toArray) = (cs.take off ++ vs ++ cs.drop (off + vs.length)).toArray := by
  suffices H : ∀ (vs : List Value) (k : Nat) (cs : List Value) (off : Nat), off + k + vs.length ≤ cs.length →
      ((vs.zipIdx k).foldl (fun (a : Array Value) (q : Value × Nat) => a.setIfInBounds (off + q.2) q.1) cs.toArray) = (cs.take (off + k) ++ vs ++ cs.drop (off + k + vs.length)).toArray by
    intro cs off h
    simpa using H vs 0 cs off (by omega)
  intro vs
  induction vs with
  | nil => intro k cs off h; simp
  | cons v vs ih =>
    intro k cs off h
    simp only [List.length_cons] at h
    rw [List.zipIdx_cons, List.foldl_cons]
    have e1 : (cs.toArray.setIfInBounds (off + k) v) = (cs.set (off + k) v).toArray := by simp
    rw [e1, ih (k + 1) (cs.set (off + k) v) off (by simp; omega)]
    congr 1
    have hlt : off + k < cs.length := by omega
    have e2 : (cs.set (off + k) v).take (off + (k + 1)) = cs.take (off + k) ++ [v] := by
      rw [← Nat.add_assoc, List.take_add_one, List.take_set_of_le (Nat.le_refl _)]
      simp [hlt]
    have e3 : (cs.set (off + k) v).drop (off + (k + 1) + vs.length) = cs.drop (off + k + (v :: vs).length) := by
      rw [List.drop_set_of_lt (by omega)]
      congr 1
      simp; omega
    rw [e2, e3]
    simp

theorem fill_ok {place : Nat → Option (Nat × Nat)} {r : Operand → Value} (hr : ∀ x, SRep D ν σ (r x) (e x)) : ∀ (parts : List (Nat × Operand)) (cs : List Value) (l l' : List (SV S)), RowS D ν σ cs l →
    fillS place l (parts.map fun q => (q.1, e q.2)) = some l' → ∃ cs', RowS D ν σ cs' l' ∧ Instr.fill place cs.toArray (parts.map fun q => (q.1, r q.2)) = some cs'.toArray := by
  intro parts
  induction parts with
  | nil => intro cs l l' h hf; cases hf; exact ⟨cs, h, rfl⟩
  | cons q parts ih =>
    intro cs l l' h hf
    simp only [List.map_cons, fillS] at hf
    split at hf
    · rename_i off k ss hp hc
      have hc' := cellsS_ok (hr q.2) hc
      cases hb : (Nat.beq ss.length k && Nat.ble (off + k) l.length) with
      | false => rw [hb] at hf; cases hf
      | true =>
        rw [hb] at hf
        obtain ⟨h1, h2⟩ := and_b hb
        have h1 := Nat.eq_of_beq_eq_true h1
        have h2 := Nat.le_of_ble_eq_true h2
        subst h1
        have hs := rowS_splice h hc' h2
        obtain ⟨cs', hr', hf'⟩ := ih _ _ _ hs hf
        refine ⟨cs', hr', ?_⟩
        have el := hc'.1
        have el2 := h.1
        rw [List.map_cons, Instr.fill]
        simp only [hp]
        rw [if_neg (by simp only [Bool.or_eq_true, decide_eq_true_eq, ne_eq, List.size_toArray]; rw [← Array.length_toList, el]; omega)]
        have := setCells_eq (r q.2).cells.toList cs off (by rw [el, el2]; exact h2)
        rw [el] at this
        rw [← hf']
        congr 1
        rw [el, ← this, ← Array.foldl_toList, Array.toList_zipIdx]
    · cases hf

theorem zero_row {cs : List Value} (h : cs.all isZ = true) : RowS D ν σ cs (cs.map fun v => SV.f (ofZero v)) := by
  have key : ∀ v, isZ v = true → RepF D σ v (ofZero v) := by
    intro v hv
    unfold isZ at hv
    split at hv
    · exact .bool _
    · exact .int _ _
    · exact .str _
    · exact .nils
    · exact .nilp
    · exact .nilm
    · exact .nilf
    · cases hv
  refine ⟨by simp, fun j v s hj hs => ?_, fun v hv => ?_⟩
  · rw [List.getElem?_map, hj] at hs
    cases hs
    exact .f (key v ((List.all_eq_true.1 h) v (List.mem_of_getElem? hj)))
  · exact (key v ((List.all_eq_true.1 h) v hv)).one
end Go.Fx
