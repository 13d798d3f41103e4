/- The effect-free operations do what their plain meaning says. Conditions: those in the statements. -/
import Derived.Test.YtkfcnibjlmiboaaFxRep
namespace Go.Fx
open Go Go.RowKit Go.Fl Go.Fl.Lk
variable {S : Sig} {P : Program} {D : Shp S} {ν : Nm} {σ : Hv} {n : Nat} {f : Fr}

theorem bif_t {c : Bool} {A B : Prop} (h : bif c then A else B) (hB : ¬ B) : c = true ∧ A := by
  cases c
  · exact absurd h hB
  · exact ⟨rfl, h⟩
theorem bif_f {c : Bool} {A : Prop} (h : bif c then A else False) : c = true ∧ A := bif_t h id
theorem optK_some {α : Type} {o : Option α} {k : α → Prop} (h : optK o k) : ∃ x, o = some x ∧ k x := by
  cases o with
  | none => exact h.elim
  | some x => exact ⟨x, rfl, h⟩
theorem and_b {a b : Bool} (h : (a && b) = true) : a = true ∧ b = true := by simpa using h

theorem hasT_info {t : TypeId} (h : hasT P t = true) : ∃ i d, P.info? t = some i ∧ P.underlying t = some d := by
  unfold hasT at h
  obtain ⟨h1, h2⟩ := and_b h
  obtain ⟨i, hi⟩ := Option.isSome_iff_exists.1 h1
  obtain ⟨d, hd⟩ := Option.isSome_iff_exists.1 h2
  exact ⟨i, d, hi, hd⟩
theorem run_szQ {t : TypeId} (h : hasT P t = true) (w : World) : (sizeOf t).run P w = .ok (szQ P t) w := by
  obtain ⟨i, d, hi, hd⟩ := hasT_info h
  simp [sizeOf, typeInfo, hi, szQ]
theorem run_aggQ {t : TypeId} (h : hasT P t = true) (w : World) : (isAgg t).run P w = .ok (aggQ P t) w := by
  obtain ⟨i, d, hi, hd⟩ := hasT_info h
  unfold isAgg aggQ
  simp only [Sem.run_bind, run_underlying hd, Result.andThen_ok, hd]
  cases d <;> rfl
theorem get_sub {cs : List Value} {off k j : Nat} {v : Value} (h : ((cs.drop off).take k)[j]? = some v) : j < k ∧ cs[off + j]? = some v := by
  rw [List.getElem?_take] at h
  split at h
  · rename_i hlt
    rw [List.getElem?_drop] at h
    exact ⟨hlt, h⟩
  · cases h
theorem get_subS {l : List (SV S)} {off k j : Nat} {s : SV S} (h : ((l.drop off).take k)[j]? = some s) : j < k ∧ l[off + j]? = some s := by
  rw [List.getElem?_take] at h
  split at h
  · rename_i hlt
    rw [List.getElem?_drop] at h
    exact ⟨hlt, h⟩
  · cases h

/-- A value of a type out of a row of cells: by a load, and out of a value in a slot. -/
theorem sub_ok {t : TypeId} {cs : List Value} {l : List (SV S)} {off : Nat} {s : SV S} (hr : RowS D ν σ cs l) (h : subS P t l off = some s) :
    ∃ v, SRep D ν σ v s ∧ (∀ w a, Row w a cs → (loadVar t (a.add off)).run P w = .ok v w) ∧ ∀ w, (part t cs.toArray off).run P w = .ok v w := by
  unfold subS at h
  cases hT : hasT P t with
  | false => rw [hT] at h; cases h
  | true =>
    rw [hT] at h
    simp only [cond_true] at h
    cases hA : aggQ P t with
    | true =>
      rw [hA] at h
      simp only [cond_true] at h
      cases hb : Nat.ble (off + szQ P t) l.length with
      | false => rw [hb] at h; cases h
      | true =>
        rw [hb] at h; cases h
        have hle : off + szQ P t ≤ l.length := Nat.le_of_ble_eq_true hb
        have hlen : ((cs.drop off).take (szQ P t)).length = szQ P t := by simp only [List.length_take, List.length_drop]; have := hr.1; omega
        refine ⟨.agg ((cs.drop off).take (szQ P t)).toArray, .agg _ _ (by rw [hlen]; simp only [List.length_take, List.length_drop]; omega) (fun j v s hj hs => ?_) (fun v hv => ?_), fun w a hrow => ?_, fun w => ?_⟩
        · exact hr.2.1 _ v s (get_sub hj).2 (get_subS hs).2
        · exact hr.2.2 v (List.mem_of_mem_drop (List.mem_of_mem_take hv))
        · have hload := run_loadCells_list (P := P) w (a.add off) ((cs.drop off).take (szQ P t)) (Row.part hrow rfl)
          rw [hlen] at hload
          simp [loadVar, run_aggQ hT, hA, run_szQ hT, hload]
        · simp [part, run_aggQ hT, hA, run_szQ hT]
    | false =>
      rw [hA] at h
      simp only [cond_false] at h
      have hlt := lt_of_getq h
      obtain ⟨v, hv⟩ := getq (l := cs) (k := off) (by rw [hr.1]; exact hlt)
      refine ⟨v, hr.2.1 _ v s hv h, fun w a hrow => ?_, fun w => ?_⟩
      · have hc := hrow off v hv
        simp [loadVar, run_aggQ hT, hA, load, Sem.run, hc]
      · simp [part, run_aggQ hT, hA, hv]

/-- What a walk knows at an operation. -/
structure Kn (D : Shp S) (ν : Nm) (σ : Hv) (n : Nat) (f : Fr) (w : World) (e : Operand → SV S) (ob : Nat → Option (AO S)) (lkc : Nat → Nat → SV S) (oh : Nat → HObj) : Prop where
  e : ∀ x, SRep D ν σ (ev n f x) (e x)
  o : ∀ o a, ob o = some a → ORep D ν σ lkc o a (oh o) ∧ (oh o).ok w

def PureOk (P : Program) (D : Shp S) (ν : Nm) (σ : Hv) (ob : Nat → Option (AO S)) (oh : Nat → HObj) (r : Operand → Value) (o : Op) (K : List Nat → SV S → Prop) : Prop :=
  ∃ rd s v, K rd s ∧ SRep D ν σ v s ∧ ∀ (w : World) (oo : Oper), oo.op = o → View σ w → (∀ o ∈ rd, ∀ a, ob o = some a → (oh o).ok w) → (execOp r oo).run P w = .ok (.value v) w

variable {w : World} {e : Operand → SV S} {ob : Nat → Option (AO S)} {lkc : Nat → Nat → SV S} {oh : Nat → HObj} {K : List Nat → SV S → Prop}

theorem tst_ok {s : SV S} {A B : Prop} {v : Value} (hs : SRep D ν σ v s) (h : tst s A B) : ∃ b, v = .bool b ∧ ((b = true ∧ A) ∨ (b = false ∧ B)) := by
  cases hs with
  | lit b => cases b
             · exact ⟨_, rfl, .inr ⟨rfl, h⟩⟩
             · exact ⟨_, rfl, .inl ⟨rfl, h⟩⟩
  | f hf =>
    cases hf with
    | bool b => cases b
                · exact ⟨_, rfl, .inr ⟨rfl, h.2 (by simp)⟩⟩
                · exact ⟨_, rfl, .inl ⟨rfl, h.1 rfl⟩⟩
    | _ => exact h.elim
  | pb p d =>
    by_cases hp : p
    · exact ⟨_, rfl, .inl ⟨by simp [hp], h.1 hp⟩⟩
    · exact ⟨_, rfl, .inr ⟨by simp [hp], h.2 hp⟩⟩
  | pbn p d =>
    by_cases hp : p
    · exact ⟨_, rfl, .inr ⟨by simp [hp], h.1 hp⟩⟩
    · exact ⟨_, rfl, .inl ⟨by simp [hp], h.2 hp⟩⟩
  | _ => exact h.elim

theorem p_pick {c a b : Operand} (k : Kn D ν σ n f w e ob lkc oh) (h : pureOp P D e ob lkc (.pick c a b) K) : PureOk P D ν σ ob oh (ev n f) (.pick c a b) K := by
  obtain ⟨v, hv, h | h⟩ := tst_ok (k.e c) h
  · exact ⟨[], e a, _, h.2, k.e a, fun w oo ho _ _ => by simp [execOp, ho, hv, h.1, asBool]⟩
  · exact ⟨[], e b, _, h.2, k.e b, fun w oo ho _ _ => by simp [execOp, ho, hv, h.1, asBool]⟩

theorem cast_ok {T T' : S.C} {l : List (S.car T)} {k : List (S.car T') → Prop} (h : withCast T T' l k) : ∃ he : T = T', k (he ▸ l) := by
  unfold withCast at h
  split at h
  · exact ⟨_, h⟩
  · exact h.elim

theorem row_blk {b : Nat} {T : TypeId} {cs : List Value} {w : World} (h : (blk b T cs).ok w) : Row w ⟨b, 0, none⟩ cs := blk_row h
theorem els_row {σ : Hv} {T : S.C} {xs : List Value} {l : List (S.car T)} (hE : Els D σ T xs l) {w : World} {b : Nat} (hrow : Row w ⟨b, 0, none⟩ xs) {i : Nat} {x : S.car T} (hx : l[i]? = some x) :
    ∃ cs, RowF D σ cs (D.shape T x) ∧ Row w ⟨b, i * D.size T, none⟩ cs := by
  refine ⟨_, hE.2 i x hx, ?_⟩
  have := Row.part (o := i * D.size T) (k := D.size T) hrow rfl
  rw [addr_lit, Nat.zero_add] at this
  exact this
theorem add_lit (b o k : Nat) : (⟨b, o, none⟩ : Addr).add k = ⟨b, o + k, none⟩ := addr_lit b o k

theorem p_load {t : TypeId} {x : Operand} (k : Kn D ν σ n f w e ob lkc oh) (h : pureOp P D e ob lkc (.load t x) K) : PureOk P D ν σ ob oh (ev n f) (.load t x) K := by
  have hx := k.e x
  simp only [pureOp] at h
  generalize hvx : ev n f x = vx at hx
  generalize e x = sx at h hx
  cases hx with
  | ref o off b hν =>
    simp only at h
    cases ho : ob o with
    | none => rw [ho] at h; exact h.elim
    | some a =>
      rw [ho] at h
      obtain ⟨hR, hok⟩ := k.o o a ho
      cases a with
      | cells ty l =>
        obtain ⟨s, hs, hK⟩ := optK_some h
        obtain ⟨b', cs, hν', hh, hrow⟩ := hR
        rw [hν] at hν'; cases hν'
        obtain ⟨v, hv, hl, _⟩ := sub_ok hrow hs
        refine ⟨_, _, v, hK, hv, fun w oo hoo _ hrd => ?_⟩
        have hokw := hrd o (by simp) _ ho
        rw [hh] at hokw
        have := hl w ⟨b, 0, none⟩ (blk_row hokw)
        rw [add_lit, Nat.zero_add] at this
        simp [execOp, hoo, hvx, Instr.loadAt, Instr.sureAddr, this]
      | arr ty T N l =>
        obtain ⟨hc, hK⟩ := bif_f h
        obtain ⟨hc, hsz⟩ := and_b hc
        obtain ⟨hc, hT⟩ := and_b hc
        obtain ⟨h0, hA⟩ := and_b hc
        have h0 := Nat.eq_of_beq_eq_true h0
        have hsz := Nat.eq_of_beq_eq_true hsz
        subst h0
        obtain ⟨b', cs, hν', hh, hE, hN⟩ := hR
        rw [hν] at hν'; cases hν'
        refine ⟨_, _, _, hK, .arr cs T N l hN hE.1 hE.2, fun w oo hoo _ hrd => ?_⟩
        have hokw := hrd o (by simp) _ ho
        rw [hh] at hokw
        have hload := run_loadCells_list (P := P) w _ cs (blk_row hokw)
        have hl : cs.length = szQ P t := by rw [hE.1, hN, hsz]
        rw [hl] at hload
        simp [execOp, hoo, hvx, Instr.loadAt, Instr.sureAddr, loadVar, run_aggQ hT, hA, run_szQ hT, hload]
      | _ => exact h.elim
  | eref T o i off b m cap hν hi =>
    simp only at h
    cases ho : ob o with
    | none => rw [ho] at h; exact h.elim
    | some a =>
      rw [ho] at h
      obtain ⟨hR, hok⟩ := k.o o a ho
      cases a with
      | vec ety T' l =>
        obtain ⟨rfl, h⟩ := cast_ok h
        obtain ⟨v', xs, hν', hh, hE, _⟩ := hR
        rw [hν] at hν'; cases hν'
        rw [hh] at hok
        have hm : m = l.length := by
          rcases (vec_shape hok).2 with ⟨h1, _⟩ | ⟨g, cap', h1, _⟩
          · cases h1
          · cases h1; rfl
        subst hm
        obtain ⟨y, hy⟩ := getq (l := l) (k := i) (by omega)
        obtain ⟨s, hs, hK⟩ := optK_some (h y hy)
        have hrowF := hE.2 i y hy
        obtain ⟨v, hv, hl, _⟩ := sub_ok (D := D) (ν := ν) (hrowF.toS) hs
        refine ⟨_, _, v, hK, hv, fun w oo hoo _ hrd => ?_⟩
        have hokw := hrd o (by simp) _ ho
        rw [hh] at hokw
        have hrow := Row.part (o := i * D.size T') (k := D.size T') (vec_row hokw) rfl
        rw [add_lit, Nat.zero_add] at hrow
        have := hl w _ hrow
        rw [add_lit] at this
        simp [execOp, hoo, hvx, Instr.loadAt, Instr.sureAddr, this]
      | _ => exact h.elim
  | aref T N o i off b hν hi =>
    simp only at h
    cases ho : ob o with
    | none => rw [ho] at h; exact h.elim
    | some a =>
      rw [ho] at h
      obtain ⟨hR, hok⟩ := k.o o a ho
      cases a with
      | arr ty T' N' l =>
        obtain ⟨hN, h2⟩ := bif_f h
        clear h
        have hN := Nat.eq_of_beq_eq_true hN
        obtain ⟨rfl, h⟩ := cast_ok h2
        obtain ⟨b', xs, hν', hh, hE, hN2⟩ := hR
        rw [hν] at hν'; cases hν'
        obtain ⟨y, hy⟩ := getq (l := l) (k := i) (by omega)
        obtain ⟨s, hs, hK⟩ := optK_some (h y hy)
        have hrowF := hE.2 i y hy
        obtain ⟨v, hv, hl, _⟩ := sub_ok (D := D) (ν := ν) (hrowF.toS) hs
        refine ⟨_, _, v, hK, hv, fun w oo hoo _ hrd => ?_⟩
        have hokw := hrd o (by simp) _ ho
        rw [hh] at hokw
        have hrow := Row.part (o := i * D.size T') (k := D.size T') (blk_row hokw) rfl
        rw [add_lit, Nat.zero_add] at hrow
        have := hl w _ hrow
        rw [add_lit] at this
        simp [execOp, hoo, hvx, Instr.loadAt, Instr.sureAddr, this]
      | _ => exact h.elim
  | fptr ad cs l off hrow hr =>
    obtain ⟨s, hs, hK⟩ := optK_some h
    obtain ⟨v, hv, hl, _⟩ := sub_ok (D := D) (ν := ν) (hr.toS) hs
    refine ⟨_, _, v, hK, hv, fun w oo hoo hV _ => ?_⟩
    have := hl w ad (hrow.row hV)
    simp [execOp, hoo, hvx, Instr.loadAt, Instr.sureAddr, this]
  | fap ad cs T N l hN hrow hl hr =>
    obtain ⟨hc, hK⟩ := bif_f h
    obtain ⟨hc, hsz⟩ := and_b hc
    obtain ⟨hA, hT⟩ := and_b hc
    have hsz := Nat.eq_of_beq_eq_true hsz
    refine ⟨_, _, _, hK, .arr cs T N l hN hl hr, fun w oo hoo hV _ => ?_⟩
    have hload := run_loadCells_list (P := P) w _ cs (hrow.row hV)
    have hl : cs.length = szQ P t := by rw [hl, hN, hsz]
    rw [hl] at hload
    simp [execOp, hoo, hvx, Instr.loadAt, Instr.sureAddr, loadVar, run_aggQ hT, hA, run_szQ hT, hload]
  | _ => exact h.elim

theorem p_fieldAddr {s : TypeId} {x : Operand} {i : Nat} (k : Kn D ν σ n f w e ob lkc oh) (h : pureOp P D e ob lkc (.fieldAddr s x i) K) : PureOk P D ν σ ob oh (ev n f) (.fieldAddr s x i) K := by
  have hx := k.e x
  simp only [pureOp] at h
  split at h
  · rename_i fs hu
    split at h
    · rename_i fld hf
      obtain ⟨hc, h⟩ := bif_f h
      obtain ⟨hT, hz⟩ := and_b hc
      have hz0 : 0 < szQ P fld.type := by rw [← Nat.blt_eq]; exact hz
      obtain ⟨z, hz⟩ : ∃ z, szQ P fld.type = z + 1 := ⟨szQ P fld.type - 1, by omega⟩
      have hs := fun w => run_szQ hT w
      rw [hz] at hs
      generalize hvx : ev n f x = vx at hx
      generalize e x = sx at h hx
      have run : ∀ (a : Addr) (w : World) (oo : Oper), vx = .pointer (some a) → oo.op = .fieldAddr s x i → (execOp (ev n f) oo).run P w = .ok (.value (.pointer (some (a.add fld.offset)))) w := by
        intro a w oo ha ho
        simp [execOp, ho, hvx, ha, Instr.fieldAt, run_underlying hu, hf, Instr.sureAddr, fieldPlace, hs]
      cases hx with
      | ref o off b hν => exact ⟨_, _, _, h, .ref o _ b hν, fun w oo hoo _ _ => by rw [run _ w oo rfl hoo, add_lit]⟩
      | eref T o j off b m cap hν hi => exact ⟨_, _, _, h, .eref T o j _ b m cap hν hi, fun w oo hoo _ _ => by rw [run _ w oo rfl hoo, add_lit, Nat.add_assoc]⟩
      | aref T N o j off b hν hi => exact ⟨_, _, _, h, .aref T N o j _ b hν hi, fun w oo hoo _ _ => by rw [run _ w oo rfl hoo, add_lit, Nat.add_assoc]⟩
      | fptr ad cs l off hr hR => exact ⟨_, _, _, h, .fptr ad cs l _ hr hR, fun w oo hoo _ _ => by rw [run _ w oo rfl hoo, addr_add]⟩
      | _ => exact h.elim
    · exact h.elim
  · exact h.elim

theorem p_nilCheck {x : Operand} (k : Kn D ν σ n f w e ob lkc oh) (h : pureOp P D e ob lkc (.nilCheck x) K) : PureOk P D ν σ ob oh (ev n f) (.nilCheck x) K := by
  have hx := k.e x
  simp only [pureOp] at h
  generalize hvx : ev n f x = vx at hx
  generalize e x = sx at h hx
  cases hx with
  | ref o off b hν => exact ⟨_, _, _, h, .ref o off b hν, fun w oo hoo _ _ => by simp [execOp, hoo, hvx]⟩
  | eref T o j off b m cap hν hi => exact ⟨_, _, _, h, .eref T o j off b m cap hν hi, fun w oo hoo _ _ => by simp [execOp, hoo, hvx]⟩
  | aref T N o j off b hν hi => exact ⟨_, _, _, h, .aref T N o j off b hν hi, fun w oo hoo _ _ => by simp [execOp, hoo, hvx]⟩
  | fptr ad cs l off hr hR => exact ⟨_, _, _, h, .fptr ad cs l off hr hR, fun w oo hoo _ _ => by simp [execOp, hoo, hvx]⟩
  | fap ad cs T N l hN hr hl hR => exact ⟨_, _, _, h, .fap ad cs T N l hN hr hl hR, fun w oo hoo _ _ => by simp [execOp, hoo, hvx]⟩
  | fn g a b first cap h1 h2 h3 h4 => exact ⟨_, _, _, h, .fn g a b first cap h1 h2 h3 h4, fun w oo hoo _ _ => by simp [execOp, hoo, hvx]⟩
  | _ => exact h.elim
end Go.Fx
