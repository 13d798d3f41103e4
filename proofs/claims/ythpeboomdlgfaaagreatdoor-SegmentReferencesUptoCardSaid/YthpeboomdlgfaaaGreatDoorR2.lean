/- SegmentReferences: for every input of bulk at most 1048576 the law returns true and leaves its arguments as they were. This is part 2 of 6. Conditions: those in the statements. -/
import Derived.Test.YthpeboomdlgfaaaGreatDoorR1
import Derived.ChangeKeysEq
import Derived.Laws.StructEq
import Derived.Laws.Pointers
section
namespace Go.Fx
open Go Go.RowKit Go.Fl Go.Fl.Lk
variable {S : Sig} {P : Program} {D : Shp S} {ν : Nm} {σ : Hv} {n : Nat} {f : Fr}
theorem bif_t {c : Bool} {A B : Prop} (h : bif c then A else B) (hB : ¬ B) : c = true ∧ A := by
  cases c
  · exact absurd h hB
  · exact ⟨rfl, h⟩
theorem bif_f {c : Bool} {A : Prop} (h : bif c then A else False) : c = true ∧ A := bif_t h id
theorem optK_some {α : Type} {o : Option α} {k : α → Prop} (h : optK o k) : ∃ x, o = some x ∧ k x := by
  cases o with
  | none => exact h.elim
  | some x => exact ⟨x, rfl, h⟩
theorem and_b {a b : Bool} (h : (a && b) = true) : a = true ∧ b = true := by simpa using h
theorem hasT_info {t : TypeId} (h : hasT P t = true) : ∃ i d, P.info? t = some i ∧ P.underlying t = some d := by
  unfold hasT at h
  obtain ⟨h1, h2⟩ := and_b h
  obtain ⟨i, hi⟩ := Option.isSome_iff_exists.1 h1
  obtain ⟨d, hd⟩ := Option.isSome_iff_exists.1 h2
  exact ⟨i, d, hi, hd⟩
theorem run_szQ {t : TypeId} (h : hasT P t = true) (w : World) : (sizeOf t).run P w = .ok (szQ P t) w := by
  obtain ⟨i, d, hi, hd⟩ := hasT_info h
  simp [sizeOf, typeInfo, hi, szQ]
theorem run_aggQ {t : TypeId} (h : hasT P t = true) (w : World) : (isAgg t).run P w = .ok (aggQ P t) w := by
  obtain ⟨i, d, hi, hd⟩ := hasT_info h
  unfold isAgg aggQ
  simp only [Sem.run_bind, run_underlying hd, Result.andThen_ok, hd]
  cases d <;> rfl
theorem get_sub {cs : List Value} {off k j : Nat} {v : Value} (h : ((cs.drop off).take k)[j]? = some v) : j < k ∧ cs[off + j]? = some v := by
  rw [List.getElem?_take] at h
  split at h
  · rename_i hlt
    rw [List.getElem?_drop] at h
    exact ⟨hlt, h⟩
  · cases h
theorem get_subS {l : List (SV S)} {off k j : Nat} {s : SV S} (h : ((l.drop off).take k)[j]? = some s) : j < k ∧ l[off + j]? = some s := by
  rw [List.getElem?_take] at h
  split at h
  · rename_i hlt
    rw [List.getElem?_drop] at h
    exact ⟨hlt, h⟩
  · cases h
/-- A value of a type out of a row of cells: by a load, and out of a value in a slot. -/
theorem sub_ok {t : TypeId} {cs : List Value} {l : List (SV S)} {off : Nat} {s : SV S} (hr : RowS D ν σ cs l) (h : subS P t l off = some s) :
    ∃ v, SRep D ν σ v s ∧ (∀ w a, Row w a cs → (loadVar t (a.add off)).run P w = .ok v w) ∧ ∀ w, (part t cs.toArray off).run P w = .ok v w := by
  unfold subS at h
  cases hT : hasT P t with
  | false => rw [hT] at h; cases h
  | true =>
    rw [hT] at h
    simp only [cond_true] at h
    cases hA : aggQ P t with
    | true =>
      rw [hA] at h
      simp only [cond_true] at h
      cases hb : Nat.ble (off + szQ P t) l.length with
      | false => rw [hb] at h; cases h
      | true =>
        rw [hb] at h; cases h
        have hle : off + szQ P t ≤ l.length := Nat.le_of_ble_eq_true hb
        have hlen : ((cs.drop off).take (szQ P t)).length = szQ P t := by simp only [List.length_take, List.length_drop]; have := hr.1; omega
        refine ⟨.agg ((cs.drop off).take (szQ P t)).toArray, .agg _ _ (by rw [hlen]; simp only [List.length_take, List.length_drop]; omega) (fun j v s hj hs => ?_) (fun v hv => ?_), fun w a hrow => ?_, fun w => ?_⟩
        · exact hr.2.1 _ v s (get_sub hj).2 (get_subS hs).2
        · exact hr.2.2 v (List.mem_of_mem_drop (List.mem_of_mem_take hv))
        · have hload := run_loadCells_list (P := P) w (a.add off) ((cs.drop off).take (szQ P t)) (Row.part hrow rfl)
          rw [hlen] at hload
          simp [loadVar, run_aggQ hT, hA, run_szQ hT, hload]
        · simp [part, run_aggQ hT, hA, run_szQ hT]
    | false =>
      rw [hA] at h
      simp only [cond_false] at h
      have hlt := lt_of_getq h
      obtain ⟨v, hv⟩ := getq (l := cs) (k := off) (by rw [hr.1]; exact hlt)
      refine ⟨v, hr.2.1 _ v s hv h, fun w a hrow => ?_, fun w => ?_⟩
      · have hc := hrow off v hv
        simp [loadVar, run_aggQ hT, hA, load, Sem.run, hc]
      · simp [part, run_aggQ hT, hA, hv]
/-- What a walk knows at an operation. -/
structure Kn (D : Shp S) (ν : Nm) (σ : Hv) (n : Nat) (f : Fr) (w : World) (e : Operand → SV S) (ob : Nat → Option (AO S)) (lkc : Nat → Nat → SV S) (oh : Nat → HObj) : Prop where
  e : ∀ x, SRep D ν σ (ev n f x) (e x)
  o : ∀ o a, ob o = some a → ORep D ν σ lkc o a (oh o) ∧ (oh o).ok w
def PureOk (P : Program) (D : Shp S) (ν : Nm) (σ : Hv) (ob : Nat → Option (AO S)) (oh : Nat → HObj) (r : Operand → Value) (o : Op) (K : List Nat → SV S → Prop) : Prop :=
  ∃ rd s v, K rd s ∧ SRep D ν σ v s ∧ ∀ (w : World) (oo : Oper), oo.op = o → View σ w → (∀ o ∈ rd, ∀ a, ob o = some a → (oh o).ok w) → (execOp r oo).run P w = .ok (.value v) w
variable {w : World} {e : Operand → SV S} {ob : Nat → Option (AO S)} {lkc : Nat → Nat → SV S} {oh : Nat → HObj} {K : List Nat → SV S → Prop}
theorem tst_ok {s : SV S} {A B : Prop} {v : Value} (hs : SRep D ν σ v s) (h : tst s A B) : ∃ b, v = .bool b ∧ ((b = true ∧ A) ∨ (b = false ∧ B)) := by
  cases hs with
  | lit b => cases b
             · exact ⟨_, rfl, .inr ⟨rfl, h⟩⟩
             · exact ⟨_, rfl, .inl ⟨rfl, h⟩⟩
  | f hf =>
    cases hf with
    | bool b => cases b
                · exact ⟨_, rfl, .inr ⟨rfl, h.2 (by simp)⟩⟩
                · exact ⟨_, rfl, .inl ⟨rfl, h.1 rfl⟩⟩
    | _ => exact h.elim
  | pb p d =>
    by_cases hp : p
    · exact ⟨_, rfl, .inl ⟨by simp [hp], h.1 hp⟩⟩
    · exact ⟨_, rfl, .inr ⟨by simp [hp], h.2 hp⟩⟩
  | pbn p d =>
    by_cases hp : p
    · exact ⟨_, rfl, .inr ⟨by simp [hp], h.1 hp⟩⟩
    · exact ⟨_, rfl, .inl ⟨by simp [hp], h.2 hp⟩⟩
  | _ => exact h.elim
theorem p_pick {c a b : Operand} (k : Kn D ν σ n f w e ob lkc oh) (h : pureOp P D e ob lkc (.pick c a b) K) : PureOk P D ν σ ob oh (ev n f) (.pick c a b) K := by
  obtain ⟨v, hv, h | h⟩ := tst_ok (k.e c) h
  · exact ⟨[], e a, _, h.2, k.e a, fun w oo ho _ _ => by simp [execOp, ho, hv, h.1, asBool]⟩
  · exact ⟨[], e b, _, h.2, k.e b, fun w oo ho _ _ => by simp [execOp, ho, hv, h.1, asBool]⟩
theorem cast_ok {T T' : S.C} {l : List (S.car T)} {k : List (S.car T') → Prop} (h : withCast T T' l k) : ∃ he : T = T', k (he ▸ l) := by
  unfold withCast at h
  split at h
  · exact ⟨_, h⟩
  · exact h.elim
theorem add_lit (b o k : Nat) : (⟨b, o, none⟩ : Addr).add k = ⟨b, o + k, none⟩ := addr_lit b o k
theorem p_load {t : TypeId} {x : Operand} (k : Kn D ν σ n f w e ob lkc oh) (h : pureOp P D e ob lkc (.load t x) K) : PureOk P D ν σ ob oh (ev n f) (.load t x) K := by
  have hx := k.e x
  simp only [pureOp] at h
  generalize hvx : ev n f x = vx at hx
  generalize e x = sx at h hx
  cases hx with
  | ref o off b hν =>
    simp only at h
    cases ho : ob o with
    | none => rw [ho] at h; exact h.elim
    | some a =>
      rw [ho] at h
      obtain ⟨hR, hok⟩ := k.o o a ho
      cases a with
      | cells ty l =>
        obtain ⟨s, hs, hK⟩ := optK_some h
        obtain ⟨b', cs, hν', hh, hrow⟩ := hR
        rw [hν] at hν'; cases hν'
        obtain ⟨v, hv, hl, _⟩ := sub_ok hrow hs
        refine ⟨_, _, v, hK, hv, fun w oo hoo _ hrd => ?_⟩
        have hokw := hrd o (by simp) _ ho
        rw [hh] at hokw
        have := hl w ⟨b, 0, none⟩ (blk_row hokw)
        rw [add_lit, Nat.zero_add] at this
        simp [execOp, hoo, hvx, Instr.loadAt, Instr.sureAddr, this]
      | arr ty T N l =>
        obtain ⟨hc, hK⟩ := bif_f h
        obtain ⟨hc, hsz⟩ := and_b hc
        obtain ⟨hc, hT⟩ := and_b hc
        obtain ⟨h0, hA⟩ := and_b hc
        have h0 := Nat.eq_of_beq_eq_true h0
        have hsz := Nat.eq_of_beq_eq_true hsz
        subst h0
        obtain ⟨b', cs, hν', hh, hE, hN⟩ := hR
        rw [hν] at hν'; cases hν'
        refine ⟨_, _, _, hK, .arr cs T N l hN hE.1 hE.2, fun w oo hoo _ hrd => ?_⟩
        have hokw := hrd o (by simp) _ ho
        rw [hh] at hokw
        have hload := run_loadCells_list (P := P) w _ cs (blk_row hokw)
        have hl : cs.length = szQ P t := by rw [hE.1, hN, hsz]
        rw [hl] at hload
        simp [execOp, hoo, hvx, Instr.loadAt, Instr.sureAddr, loadVar, run_aggQ hT, hA, run_szQ hT, hload]
      | _ => exact h.elim
  | eref T o i off b m cap hν hi =>
    simp only at h
    cases ho : ob o with
    | none => rw [ho] at h; exact h.elim
    | some a =>
      rw [ho] at h
      obtain ⟨hR, hok⟩ := k.o o a ho
      cases a with
      | vec ety T' l =>
        obtain ⟨rfl, h⟩ := cast_ok h
        obtain ⟨v', xs, hν', hh, hE, _⟩ := hR
        rw [hν] at hν'; cases hν'
        rw [hh] at hok
        have hm : m = l.length := by
          rcases (vec_shape hok).2 with ⟨h1, _⟩ | ⟨g, cap', h1, _⟩
          · cases h1
          · cases h1; rfl
        subst hm
        obtain ⟨y, hy⟩ := getq (l := l) (k := i) (by omega)
        obtain ⟨s, hs, hK⟩ := optK_some (h y hy)
        have hrowF := hE.2 i y hy
        obtain ⟨v, hv, hl, _⟩ := sub_ok (D := D) (ν := ν) (hrowF.toS) hs
        refine ⟨_, _, v, hK, hv, fun w oo hoo _ hrd => ?_⟩
        have hokw := hrd o (by simp) _ ho
        rw [hh] at hokw
        have hrow := Row.part (o := i * D.size T') (k := D.size T') (vec_row hokw) rfl
        rw [add_lit, Nat.zero_add] at hrow
        have := hl w _ hrow
        rw [add_lit] at this
        simp [execOp, hoo, hvx, Instr.loadAt, Instr.sureAddr, this]
      | _ => exact h.elim
  | aref T N o i off b hν hi =>
    simp only at h
    cases ho : ob o with
    | none => rw [ho] at h; exact h.elim
    | some a =>
      rw [ho] at h
      obtain ⟨hR, hok⟩ := k.o o a ho
      cases a with
      | arr ty T' N' l =>
        obtain ⟨hN, h2⟩ := bif_f h
        clear h
        have hN := Nat.eq_of_beq_eq_true hN
        obtain ⟨rfl, h⟩ := cast_ok h2
        obtain ⟨b', xs, hν', hh, hE, hN2⟩ := hR
        rw [hν] at hν'; cases hν'
        obtain ⟨y, hy⟩ := getq (l := l) (k := i) (by omega)
        obtain ⟨s, hs, hK⟩ := optK_some (h y hy)
        have hrowF := hE.2 i y hy
        obtain ⟨v, hv, hl, _⟩ := sub_ok (D := D) (ν := ν) (hrowF.toS) hs
        refine ⟨_, _, v, hK, hv, fun w oo hoo _ hrd => ?_⟩
        have hokw := hrd o (by simp) _ ho
        rw [hh] at hokw
        have hrow := Row.part (o := i * D.size T') (k := D.size T') (blk_row hokw) rfl
        rw [add_lit, Nat.zero_add] at hrow
        have := hl w _ hrow
        rw [add_lit] at this
        simp [execOp, hoo, hvx, Instr.loadAt, Instr.sureAddr, this]
      | _ => exact h.elim
  | fptr ad cs l off hrow hr =>
    obtain ⟨s, hs, hK⟩ := optK_some h
    obtain ⟨v, hv, hl, _⟩ := sub_ok (D := D) (ν := ν) (hr.toS) hs
    refine ⟨_, _, v, hK, hv, fun w oo hoo hV _ => ?_⟩
    have := hl w ad (hrow.row hV)
    simp [execOp, hoo, hvx, Instr.loadAt, Instr.sureAddr, this]
  | fap ad cs T N l hN hrow hl hr =>
    obtain ⟨hc, hK⟩ := bif_f h
    obtain ⟨hc, hsz⟩ := and_b hc
    obtain ⟨hA, hT⟩ := and_b hc
    have hsz := Nat.eq_of_beq_eq_true hsz
    refine ⟨_, _, _, hK, .arr cs T N l hN hl hr, fun w oo hoo hV _ => ?_⟩
    have hload := run_loadCells_list (P := P) w _ cs (hrow.row hV)
    have hl : cs.length = szQ P t := by rw [hl, hN, hsz]
    rw [hl] at hload
    simp [execOp, hoo, hvx, Instr.loadAt, Instr.sureAddr, loadVar, run_aggQ hT, hA, run_szQ hT, hload]
  | _ => exact h.elim
theorem p_fieldAddr {s : TypeId} {x : Operand} {i : Nat} (k : Kn D ν σ n f w e ob lkc oh) (h : pureOp P D e ob lkc (.fieldAddr s x i) K) : PureOk P D ν σ ob oh (ev n f) (.fieldAddr s x i) K := by
  have hx := k.e x
  simp only [pureOp] at h
  split at h
  · rename_i fs hu
    split at h
    · rename_i fld hf
      obtain ⟨hc, h⟩ := bif_f h
      obtain ⟨hT, hz⟩ := and_b hc
      have hz0 : 0 < szQ P fld.type := by rw [← Nat.blt_eq]; exact hz
      obtain ⟨z, hz⟩ : ∃ z, szQ P fld.type = z + 1 := ⟨szQ P fld.type - 1, by omega⟩
      have hs := fun w => run_szQ hT w
      rw [hz] at hs
      generalize hvx : ev n f x = vx at hx
      generalize e x = sx at h hx
      have run : ∀ (a : Addr) (w : World) (oo : Oper), vx = .pointer (some a) → oo.op = .fieldAddr s x i → (execOp (ev n f) oo).run P w = .ok (.value (.pointer (some (a.add fld.offset)))) w := by
        intro a w oo ha ho
        simp [execOp, ho, hvx, ha, Instr.fieldAt, run_underlying hu, hf, Instr.sureAddr, fieldPlace, hs]
      cases hx with
      | ref o off b hν => exact ⟨_, _, _, h, .ref o _ b hν, fun w oo hoo _ _ => by rw [run _ w oo rfl hoo, add_lit]⟩
      | eref T o j off b m cap hν hi => exact ⟨_, _, _, h, .eref T o j _ b m cap hν hi, fun w oo hoo _ _ => by rw [run _ w oo rfl hoo, add_lit, Nat.add_assoc]⟩
      | aref T N o j off b hν hi => exact ⟨_, _, _, h, .aref T N o j _ b hν hi, fun w oo hoo _ _ => by rw [run _ w oo rfl hoo, add_lit, Nat.add_assoc]⟩
      | fptr ad cs l off hr hR => exact ⟨_, _, _, h, .fptr ad cs l _ hr hR, fun w oo hoo _ _ => by rw [run _ w oo rfl hoo, addr_add]⟩
      | _ => exact h.elim
    · exact h.elim
  · exact h.elim
theorem p_nilCheck {x : Operand} (k : Kn D ν σ n f w e ob lkc oh) (h : pureOp P D e ob lkc (.nilCheck x) K) : PureOk P D ν σ ob oh (ev n f) (.nilCheck x) K := by
  have hx := k.e x
  simp only [pureOp] at h
  generalize hvx : ev n f x = vx at hx
  generalize e x = sx at h hx
  cases hx with
  | ref o off b hν => exact ⟨_, _, _, h, .ref o off b hν, fun w oo hoo _ _ => by simp [execOp, hoo, hvx]⟩
  | eref T o j off b m cap hν hi => exact ⟨_, _, _, h, .eref T o j off b m cap hν hi, fun w oo hoo _ _ => by simp [execOp, hoo, hvx]⟩
  | aref T N o j off b hν hi => exact ⟨_, _, _, h, .aref T N o j off b hν hi, fun w oo hoo _ _ => by simp [execOp, hoo, hvx]⟩
  | fptr ad cs l off hr hR => exact ⟨_, _, _, h, .fptr ad cs l off hr hR, fun w oo hoo _ _ => by simp [execOp, hoo, hvx]⟩
  | fap ad cs T N l hN hr hl hR => exact ⟨_, _, _, h, .fap ad cs T N l hN hr hl hR, fun w oo hoo _ _ => by simp [execOp, hoo, hvx]⟩
  | fn g a b first cap h1 h2 h3 h4 => exact ⟨_, _, _, h, .fn g a b first cap h1 h2 h3 h4, fun w oo hoo _ _ => by simp [execOp, hoo, hvx]⟩
  | _ => exact h.elim
end Go.Fx
end
section
namespace Go.Fx
open Go Go.RowKit Go.Fl Go.Fl.Lk
variable {S : Sig} {P : Program}
def okV : FK → Value → Prop
  | .int k, v => ∃ n, v = .int k n
  | .bool, v => ∃ b, v = .bool b
  | .str, v => ∃ s, v = .string s
def Conf (ks : List FK) (xs : List Value) : Prop := xs.length = ks.length ∧ ∀ (i : Nat) k v, ks[i]? = some k → xs[i]? = some v → okV k v
theorem bif_none {α : Type} {c : Bool} {x : Option α} {y : α} (h : (bif c then none else x) = some y) : c = false ∧ x = some y := by
  cases c with
  | true => cases h
  | false => exact ⟨rfl, h⟩
theorem bif_some' {α : Type} {c : Bool} {x : Option α} {y : α} (h : (bif c then x else none) = some y) : c = true ∧ x = some y := by
  cases c with
  | true => exact ⟨rfl, h⟩
  | false => cases h
theorem ba_beq (a b : ByteArray) : (a == b) = decide (a = b) := by
  rcases Decidable.em (a = b) with h | h
  · subst h
    rw [decide_eq_true rfl]
    obtain ⟨⟨x⟩⟩ := a
    show ((⟨x⟩ : Array UInt8) == ⟨x⟩) = true
    simp
  · rw [decide_eq_false h]
    obtain ⟨⟨x⟩⟩ := a
    obtain ⟨⟨y⟩⟩ := b
    show ((⟨x⟩ : Array UInt8) == ⟨y⟩) = false
    simp only [beq_eq_false_iff_ne, ne_eq]
    intro e
    exact h (by rw [e])
theorem plain_key {t : TypeId} {k : FK} (h : plainK P t = some k) : P.plainKey t = true := by
  unfold plainK at h
  split at h <;> first | (cases h; done) | (rename_i hu; simp [Program.plainKey, hu])
theorem eq_plain {t : TypeId} {k : FK} (h : plainK P t = some k) (d : Nat) {a b : Value} (ha : okV k a) (hb : okV k b) (w : World) : ∃ r, (Op.equalIn (d + 1) t a b).run P w = .ok r w ∧ (r = true ↔ a = b) := by
  unfold plainK at h
  split at h
  case h_4 => cases h
  · rename_i hu
    cases h
    obtain ⟨x, rfl⟩ := ha
    obtain ⟨y, rfl⟩ := hb
    exact ⟨_, run_equalIn_int w d t _ _ x y hu, by simp⟩
  · rename_i hu
    cases h
    obtain ⟨x, rfl⟩ := ha
    obtain ⟨y, rfl⟩ := hb
    exact ⟨_, run_equalIn_bool' w d t x y hu, by simp⟩
  · rename_i hu
    cases h
    obtain ⟨x, rfl⟩ := ha
    obtain ⟨y, rfl⟩ := hb
    exact ⟨_, run_equalIn_string w d t x y hu, by rw [← beq_toListBytes, ba_beq]; simp⟩
theorem flatFs_get : ∀ {fs : List Field} {i : Nat} {ks : List FK}, flatFs P i fs = some ks → fs.length = ks.length ∧ ∀ (j : Nat) f, fs[j]? = some f → ∃ k, ks[j]? = some k ∧ f.name ≠ "_" ∧ f.offset = i + j ∧ plainK P f.type = some k
  | [], i, ks, h => by cases h; exact ⟨rfl, fun j f h => by simp at h⟩
  | f :: fs, i, ks, h => by
    unfold flatFs at h
    obtain ⟨h1, h⟩ := bif_some' h
    split at h
    case h_2 => cases h
    rename_i k ks' hk hks
    cases h
    obtain ⟨hl, hg⟩ := flatFs_get hks
    simp only [Bool.and_eq_true, decide_eq_true_eq] at h1
    refine ⟨by simp [hl], fun j g hj => ?_⟩
    cases j with
    | zero =>
      cases hj
      exact ⟨k, rfl, h1.1, by simpa using Nat.eq_of_beq_eq_true h1.2, hk⟩
    | succ j =>
      obtain ⟨k', a, b, c, d⟩ := hg j g hj
      exact ⟨k', a, b, by omega, d⟩
theorem conf_at {ks : List FK} {xs : List Value} (hx : Conf ks xs) {i : Nat} {k : FK} (hk : ks[i]? = some k) : ∃ v, xs.toArray[i]? = some v ∧ okV k v := by
  obtain ⟨v, hv⟩ := getq (l := xs) (k := i) (by rw [hx.1]; exact lt_of_getq hk)
  exact ⟨v, by simpa using hv, hx.2 i k v hk hv⟩
theorem eq_fields {ks : List FK} {xs ys : List Value} (hx : Conf ks xs) (hy : Conf ks ys) (d : Nat) (w : World) : ∀ (fs : List Field), (∀ f ∈ fs, f.name ≠ "_" ∧ ∃ k, ks[f.offset]? = some k ∧ plainK P f.type = some k) →
    ∃ r, (Op.eqFields (d + 1) xs.toArray ys.toArray fs).run P w = .ok r w ∧ (r = true ↔ ∀ f ∈ fs, xs[f.offset]? = ys[f.offset]?)
  | [], _ => ⟨true, by simp [Op.eqFields], by simp⟩
  | f :: fs, h => by
    obtain ⟨hn, k, hk, hp⟩ := h f (by simp)
    obtain ⟨r', hr', hi'⟩ := eq_fields hx hy d w fs fun g hg => h g (by simp [hg])
    obtain ⟨a, ha, oa⟩ := conf_at hx hk
    obtain ⟨b, hb, ob⟩ := conf_at hy hk
    obtain ⟨r, hr, hi⟩ := eq_plain hp d oa ob w
    simp only [Op.eqFields, hn, ne_eq, not_false_eq_true, if_true, Sem.run_bind, run_part_plain w (plain_key hp) ha, run_part_plain w (plain_key hp) hb, hr, Result.andThen_ok]
    have e1 : xs[f.offset]? = some a := by simpa using ha
    have e2 : ys[f.offset]? = some b := by simpa using hb
    cases r with
    | false =>
      refine ⟨false, by simp, ?_⟩
      simp only [Bool.false_eq_true, false_iff]
      intro hh
      have := hh f (by simp)
      rw [e1, e2] at this
      exact absurd (hi.2 (Option.some.inj this)) (by simp)
    | true =>
      refine ⟨r', by simpa using hr', ?_⟩
      rw [hi']
      have := hi.1 rfl
      simp [e1, e2, this]
theorem eq_items {ks : List FK} {xs ys : List Value} (hx : Conf ks xs) (hy : Conf ks ys) {e : TypeId} {k : FK} (hp : plainK P e = some k) (d : Nat) (w : World) : ∀ (is : List Nat), (∀ i ∈ is, ks[i]? = some k) →
    ∃ r, (Op.eqItems (d + 1) e 1 xs.toArray ys.toArray is).run P w = .ok r w ∧ (r = true ↔ ∀ i ∈ is, xs[i]? = ys[i]?)
  | [], _ => ⟨true, by simp [Op.eqItems], by simp⟩
  | i :: is, h => by
    have hk := h i (by simp)
    obtain ⟨r', hr', hi'⟩ := eq_items hx hy hp d w is fun g hg => h g (by simp [hg])
    obtain ⟨a, ha, oa⟩ := conf_at hx hk
    obtain ⟨b, hb, ob⟩ := conf_at hy hk
    obtain ⟨r, hr, hi⟩ := eq_plain hp d oa ob w
    simp only [Op.eqItems, Nat.mul_one, Sem.run_bind, run_part_plain w (plain_key hp) ha, run_part_plain w (plain_key hp) hb, hr, Result.andThen_ok]
    have e1 : xs[i]? = some a := by simpa using ha
    have e2 : ys[i]? = some b := by simpa using hb
    cases r with
    | false =>
      refine ⟨false, by simp, ?_⟩
      simp only [Bool.false_eq_true, false_iff]
      intro hh
      have := hh i (by simp)
      rw [e1, e2] at this
      exact absurd (hi.2 (Option.some.inj this)) (by simp)
    | true =>
      refine ⟨r', by simpa using hr', ?_⟩
      rw [hi']
      have := hi.1 rfl
      simp [e1, e2, this]
/-- Flat values are compared cell by cell. -/
theorem eq_flat {t : TypeId} {ks : List FK} (hq : flatQ P t = some ks) {xs ys : List Value} (hx : Conf ks xs) (hy : Conf ks ys) (d : Nat) (w : World) :
    ∃ r, (Op.equalIn (d + 2) t (.agg xs.toArray) (.agg ys.toArray)).run P w = .ok r w ∧ (r = true ↔ xs = ys) := by
  unfold flatQ at hq
  split at hq
  · rename_i fs hu
    obtain ⟨hs, hq⟩ := bif_none hq
    obtain ⟨hl, hg⟩ := flatFs_get hq
    have hfs : P.fieldsOf t = fs := by simp [Program.fieldsOf, hu]
    obtain ⟨r, hr, hi⟩ := eq_fields hx hy d w fs.toList fun f hf => by
      obtain ⟨j, hj⟩ := List.mem_iff_getElem?.1 hf
      obtain ⟨k, a, b, c, e⟩ := hg j f hj
      exact ⟨b, k, by rw [c, Nat.zero_add]; exact a, e⟩
    refine ⟨r, ?_, ?_⟩
    · rw [show d + 2 = (d + 1) + 1 from rfl, run_equalIn_struct w (d + 1) t _ _ (by rw [hfs]; exact hu) hs, hfs]; exact hr
    · rw [hi]
      constructor
      · intro h
        refine List.ext_getElem? fun j => ?_
        rcases Nat.lt_or_ge j ks.length with hj | hj
        · obtain ⟨f, hf⟩ := getq (l := fs.toList) (k := j) (by omega)
          obtain ⟨k, a, b, c, e⟩ := hg j f hf
          have := h f (List.mem_of_getElem? hf)
          rw [c, Nat.zero_add] at this
          exact this
        · rw [List.getElem?_eq_none (by rw [hx.1]; exact hj), List.getElem?_eq_none (by rw [hy.1]; exact hj)]
      · intro h; subst h; simp
  · rename_i n e hu
    obtain ⟨hs, hq⟩ := bif_some' hq
    simp only [Bool.and_eq_true] at hs
    obtain ⟨i, hi⟩ := Option.isSome_iff_exists.1 hs.1
    obtain ⟨k, hk, rfl⟩ := Option.map_eq_some_iff.1 hq
    obtain ⟨r, hr, hri⟩ := eq_items hx hy hk d w (List.range n) fun i hi => by
      rw [List.getElem?_replicate, if_pos (List.mem_range.1 hi)]
    refine ⟨r, ?_, ?_⟩
    · rw [show d + 2 = (d + 1) + 1 from rfl, run_equalIn_array w (d + 1) _ _ hu hi, Nat.eq_of_beq_eq_true hs.2]; exact hr
    · rw [hri]
      have h1 := hx.1
      have h2 := hy.1
      simp only [List.length_replicate] at h1 h2
      constructor
      · intro h
        refine List.ext_getElem? fun j => ?_
        rcases Nat.lt_or_ge j n with hj | hj
        · exact h j (List.mem_range.2 hj)
        · rw [List.getElem?_eq_none (by omega), List.getElem?_eq_none (by omega)]
      · intro h; subst h; simp
  · cases hq
theorem check_plain {t : TypeId} {k : FK} (h : plainK P t = some k) (em : Bool) (d : Nat) {a : Value} (ha : okV k a) (w : World) : (Instr.checkKey em (d + 1) t a).run P w = .ok () w := by
  unfold plainK at h
  split at h
  case h_4 => cases h
  all_goals
    rename_i hu
    cases h
    obtain ⟨x, rfl⟩ := ha
    unfold Instr.checkKey
    simp [Sem.run_bind, run_underlying hu]
theorem check_flat {t : TypeId} {ks : List FK} (hq : flatQ P t = some ks) {xs : List Value} (hx : Conf ks xs) (em : Bool) (d : Nat) (w : World) : (Instr.checkKey em (d + 2) t (.agg xs.toArray)).run P w = .ok () w := by
  unfold flatQ at hq
  split at hq
  · rename_i fs hu
    obtain ⟨hs, hq⟩ := bif_none hq
    obtain ⟨hl, hg⟩ := flatFs_get hq
    rw [show d + 2 = (d + 1) + 1 from rfl, Instr.checkKey]
    simp only [Sem.run_bind, run_underlying hu, Result.andThen_ok]
    rw [← Array.forIn_toList]
    have hall : ∀ f ∈ fs.toList, f.name ≠ "_" ∧ ∃ k, ks[f.offset]? = some k ∧ plainK P f.type = some k := fun f hf => by
      obtain ⟨j, hj⟩ := List.mem_iff_getElem?.1 hf
      obtain ⟨k, a, b, c, e⟩ := hg j f hj
      exact ⟨b, k, by rw [c, Nat.zero_add]; exact a, e⟩
    clear hg hq hl
    generalize fs.toList = L at hall
    induction L with
    | nil => simp
    | cons f L ih =>
      obtain ⟨hn, k, hk, hp⟩ := hall f (by simp)
      obtain ⟨a, ha, oa⟩ := conf_at hx hk
      simp only [List.forIn_cons, Sem.run_bind, hn, ne_eq, not_false_eq_true, if_true, run_part_plain w (plain_key hp) ha, check_plain hp em d oa w, Result.andThen_ok, Sem.run_pure]
      exact ih fun g hg => hall g (by simp [hg])
  · rename_i n e hu
    obtain ⟨hs, hq⟩ := bif_some' hq
    simp only [Bool.and_eq_true] at hs
    obtain ⟨i, hi⟩ := Option.isSome_iff_exists.1 hs.1
    obtain ⟨k, hp, rfl⟩ := Option.map_eq_some_iff.1 hq
    rw [show d + 2 = (d + 1) + 1 from rfl, Instr.checkKey]
    simp only [Sem.run_bind, run_underlying hu, Result.andThen_ok]
    simp only [Std.Legacy.Range.forIn_eq_forIn_range', Std.Legacy.Range.size, Nat.sub_zero, Nat.add_one_sub_one, Nat.div_one]
    have hall : ∀ i ∈ List.range' 0 n, (List.replicate n k)[i]? = some k := fun i hi => by
      rw [List.getElem?_replicate, if_pos (by simpa using hi)]
    generalize List.range' 0 n = is at hall
    induction is with
    | nil => simp
    | cons j is ih =>
      obtain ⟨a, ha, oa⟩ := conf_at hx (hall j (by simp))
      have ha' : xs.toArray[j * P.cellsOf e]? = some a := by rw [Nat.eq_of_beq_eq_true hs.2, Nat.mul_one]; exact ha
      simp only [List.forIn_cons, Sem.run_bind, run_sizeOf w hi, Result.andThen_ok, run_part_plain w (plain_key hp) ha', check_plain hp em d oa w, Sem.run_pure]
      exact ih fun y hy => hall y (by simp [hy])
  · cases hq
theorem valF_inj {a b : FV S} {k : FK} (ha : kindF a = some k) (hb : kindF b = some k) (h : valF a = valF b) : a = b := by
  cases a <;> cases b <;> simp_all [kindF, valF]
theorem okV_valF {a : FV S} {k : FK} (ha : kindF a = some k) : okV k (valF a) := by
  cases a <;> cases ha <;> exact ⟨_, rfl⟩
theorem conf_kenc {l : List (FV S)} {ks : List FK} (h : l.map kindF = ks.map some) : Conf ks (l.map valF) := by
  have hl : l.length = ks.length := by simpa using congrArg List.length h
  refine ⟨by simp [hl], fun i k v hk hv => ?_⟩
  rw [List.getElem?_map] at hv
  obtain ⟨a, ha, rfl⟩ := Option.map_eq_some_iff.1 hv
  have := congrArg (·[i]?) h
  simp only [List.getElem?_map, ha, hk, Option.map_some, Option.some.injEq] at this
  exact okV_valF this
theorem row_inj {l l' : List (FV S)} {ks : List FK} (h : l.map kindF = ks.map some) (h' : l'.map kindF = ks.map some) (he : l.map valF = l'.map valF) : l = l' := by
  have hl : l.length = ks.length := by simpa using congrArg List.length h
  have hl' : l'.length = ks.length := by simpa using congrArg List.length h'
  refine List.ext_getElem? fun i => ?_
  rcases Nat.lt_or_ge i ks.length with hi | hi
  · obtain ⟨a, ha⟩ := getq (l := l) (k := i) (by omega)
    obtain ⟨b, hb⟩ := getq (l := l') (k := i) (by omega)
    obtain ⟨k, hk⟩ := getq (l := ks) (k := i) hi
    have e1 := congrArg (·[i]?) h
    have e2 := congrArg (·[i]?) h'
    have e3 := congrArg (·[i]?) he
    simp only [List.getElem?_map, ha, hb, hk, Option.map_some, Option.some.injEq] at e1 e2 e3
    rw [ha, hb, valF_inj e1 e2 e3]
  · rw [List.getElem?_eq_none (by omega), List.getElem?_eq_none (by omega)]
theorem same_ok {v : Value} {k : FK} (h : okV k v) (n : Nat) : Instr.sameBits n v v = true := by
  cases k with
  | int k => obtain ⟨x, rfl⟩ := h; cases n <;> simp [Instr.sameBits]
  | bool => obtain ⟨x, rfl⟩ := h; cases n <;> simp [Instr.sameBits]
  | str => obtain ⟨x, rfl⟩ := h; cases n <;> simp [Instr.sameBits, ba_beq]
theorem asV_two {l : List Value} (h : 2 ≤ l.length) : asV l = .agg l.toArray := by
  match l, h with
  | [_], h => simp at h
  | [], _ => rfl
  | _ :: _ :: _, _ => rfl
/-- Flat structs and arrays as keys. -/
theorem keyOk_flat {D : Shp S} {K : S.C} {t : TypeId} {ks : List FK} (hq : flatQ P t = some ks) (h2 : 2 ≤ ks.length) (hc : ∀ x, (D.shape K x).map kindF = ks.map some) (hinj : ∀ a b, D.shape K a = D.shape K b → a = b) : KeyOk P t (kenc D K) := by
  have hlen : ∀ x, ((D.shape K x).map (valF (S := S))).length = ks.length := fun x => (conf_kenc (hc x)).1
  have hk : ∀ x, kenc D K x = .agg ((D.shape K x).map valF).toArray := fun x => asV_two (by rw [hlen]; exact h2)
  have hd : ∃ td, P.underlying t = some td ∧ ∀ (a b : Array Value), Instr.sameNow td (.agg a) (.agg b) = none := by
    unfold flatQ at hq
    split at hq
    · rename_i fs hu; exact ⟨_, hu, fun a b => rfl⟩
    · rename_i n e hu; exact ⟨_, hu, fun a b => rfl⟩
    · cases hq
  obtain ⟨td, hu, hs⟩ := hd
  have inj : ∀ a b, kenc D K a = kenc D K b → a = b := fun a b h => by
    rw [hk, hk] at h
    have h : (D.shape K a).map valF = (D.shape K b).map valF := by simpa using h
    exact hinj a b (row_inj (hc a) (hc b) h)
  refine ⟨inj, fun e k w => ?_, fun es k w hes => ?_, fun k w => ?_⟩
  · rw [hk]; exact check_flat hq (conf_kenc (hc k)) e 9998 w
  · have key : ∀ (es : List MapEntry) (i : Nat), KeysOf (kenc D K) es → (Instr.findAsking t (kenc D K k) es i).run P w = .ok (fidx (kenc D K) k es i) w := by
      intro es
      induction es with
      | nil => intro i _; simp [Instr.findAsking, fidx]
      | cons e es ih =>
        intro i h
        obtain ⟨a, ha⟩ := h e (by simp)
        obtain ⟨r, hr, hi⟩ := eq_flat hq (conf_kenc (hc k)) (conf_kenc (hc a)) 9998 w
        have hr' : (Op.equal t (kenc D K k) e.key).run P w = .ok r w := by rw [ha, hk, hk]; exact hr
        simp only [Instr.findAsking, Sem.run_bind, hr', Result.andThen_ok]
        cases r with
        | true =>
          have he := row_inj (hc k) (hc a) (hi.1 rfl)
          have : e.key = kenc D K k := by rw [ha, hinj _ _ he]
          simp [fidx, this]
        | false =>
          have : ¬ e.key = kenc D K k := fun hh => by
            rw [ha] at hh
            have := inj _ _ hh
            subst this
            exact absurd (hi.2 rfl) (by simp)
          simp only [Bool.false_eq_true, if_false, fidx, this]
          exact ih (i + 1) fun x hx => h x (by simp [hx])
    unfold Instr.findKey
    simp only [Sem.run_bind, run_underlying hu, Result.andThen_ok]
    cases es with
    | nil => simp [Instr.findNow, fidx]
    | cons e es =>
      obtain ⟨a, ha⟩ := hes e (by simp)
      have : Instr.findNow td (kenc D K k) (e :: es) 0 = none := by simp only [Instr.findNow, ha, hk, hs]
      rw [this]
      exact key (e :: es) 0 hes
  · unfold Instr.keyThatStays
    have : Instr.sameBits 10000 (kenc D K k) (kenc D K k) = true := by
      rw [hk]
      show (_ && _) = true
      simp only [beq_self_eq_true, Bool.true_and, List.all_eq_true]
      intro q hq'
      obtain ⟨i, hi⟩ := List.mem_iff_getElem?.1 hq'
      simp only [List.getElem?_zip_eq_some] at hi
      obtain ⟨k', hk'⟩ := getq (l := ks) (k := i) (by rw [← hlen k]; exact lt_of_getq hi.1)
      have e : q.1 = q.2 := Option.some.inj (hi.1.symm.trans hi.2)
      rw [← e]
      exact same_ok ((conf_kenc (hc k)).2 i k' q.1 hk' hi.1) _
    simp [this]
theorem keyOk_str {kt : TypeId} (hk : P.underlying kt = some .string) : KeyOk P kt (fun x : ByteArray => .string x) where
  inj a b h := by simpa using h
  check e k w := by unfold Instr.checkKey; simp [Sem.run_bind, run_underlying hk]
  find es k w h := by
    have key : ∀ (es : List MapEntry) (i : Nat), KeysOf (fun x : ByteArray => Value.string x) es → Instr.findNow .string (.string k) es i = some (fidx (fun x : ByteArray => Value.string x) k es i) := by
      intro es
      induction es with
      | nil => intro i _; rfl
      | cons e es ih =>
        intro i h
        obtain ⟨a, ha⟩ := h e (by simp)
        have ih' := ih (i + 1) fun x hx => h x (by simp [hx])
        by_cases hka : k = a
        · subst hka; simp [Instr.findNow, ha, Instr.sameNow, fidx, ba_beq]
        · have hak : ¬ a = k := fun e => hka e.symm
          simp [Instr.findNow, ha, Instr.sameNow, fidx, ba_beq, hka, hak, ih']
    unfold Instr.findKey
    simp [Sem.run_bind, run_underlying hk, key es 0 h]
  stays k w := by unfold Instr.keyThatStays; simp [Instr.sameBits, ba_beq]
end Go.Fx
end
section
namespace Go.Fx
open Go Go.RowKit Go.Fl Go.Fl.Lk
variable {S : Sig} {P : Program} {D : Shp S} {ν : Nm} {σ : Hv} {n : Nat} {f : Fr}
variable {w : World} {e : Operand → SV S} {ob : Nat → Option (AO S)} {lkc : Nat → Nat → SV S} {oh : Nat → HObj} {K : List Nat → SV S → Prop}
theorem rep_int {v : Value} {k : IntKind} {a : Int} (h : SRep D ν σ v (.f (.int k a))) : v = .int k a := by
  cases h with
  | f h => cases h; rfl
theorem rep_str {v : Value} {a : ByteArray} (h : SRep D ν σ v (.f (.str a))) : v = .string a := by
  cases h with
  | f h => cases h; rfl
/-- A list that may only be read. -/
theorem lst_ok {x : Operand} {T : S.C} {l : List (S.car T)} (k : Kn D ν σ n f w e ob lkc oh) (h : lstS ob (e x) = some ⟨T, l⟩) : RepF D σ (ev n f x) (.sl T l) := by
  have hx := k.e x
  generalize hvx : ev n f x = vx at hx
  generalize e x = sx at h hx
  cases hx with
  | f hf =>
    cases hf with
    | sl T' l' a cap c h1 h2 h3 h4 =>
      simp only [lstS] at h
      cases h
      exact .sl _ _ a cap c h1 h2 h3 h4
    | _ => cases h
  | hnd o v hν h1 =>
    simp only [lstS] at h
    cases ho : ob o with
    | none => rw [ho] at h; cases h
    | some a =>
      rw [ho] at h
      obtain ⟨hR, hok⟩ := k.o o a ho
      cases a with
      | frz T' l' =>
        cases h
        obtain ⟨v', hν', _, hr⟩ := hR
        rw [hν] at hν'; cases hν'
        exact hr
      | _ => cases h
  | _ => cases h
theorem run_iaddr {st el : TypeId} {x y : Operand} {i : Int} {a : Addr} {len cap : Nat} (hx : ev n f x = .slice (some a) len cap) (hy : ev n f y = .int .i64 i) (h0 : 0 ≤ i) (hk : i < (len : Int))
    (hu : P.underlying st = some (.slice el)) (hT : hasT P el = true) (w : World) {oo : Oper} (ho : oo.op = .indexAddr st x y) :
    (execOp (ev n f) oo).run P w = .ok (.value (.pointer (some (a.add (i.toNat * szQ P el))))) w := by
  simp [execOp, ho, hx, hy, Instr.indexAt, asIntOf, run_underlying hu, run_szQ hT, h0, hk]
theorem run_iaddrA {st el : TypeId} {x y : Operand} {i : Int} {a : Addr} {len : Nat} (hx : ev n f x = .pointer (some a)) (hy : ev n f y = .int .i64 i) (h0 : 0 ≤ i) (hk : i < (len : Int))
    (hu : P.underlying st = some (.array len el)) (hT : hasT P el = true) (w : World) {oo : Oper} (ho : oo.op = .indexAddr st x y) :
    (execOp (ev n f) oo).run P w = .ok (.value (.pointer (some (a.add (i.toNat * szQ P el))))) w := by
  simp [execOp, ho, hx, hy, Instr.indexAt, asIntOf, run_underlying hu, run_szQ hT, h0, hk, Instr.sureAddr]
theorem p_indexAddr {t : TypeId} {x j : Operand} (hD : D.Ok) (k : Kn D ν σ n f w e ob lkc oh) (h : pureOp P D e ob lkc (.indexAddr t x j) K) : PureOk P D ν σ ob oh (ev n f) (.indexAddr t x j) K := by
  simp only [pureOp] at h
  split at h
  case h_2 => exact h.elim
  rename_i _ i hj
  have hj' := rep_int (hj ▸ k.e j)
  split at h
  · rename_i el hu
    obtain ⟨hT, h⟩ := bif_f h
    split at h
    · rename_i T l hl
      obtain ⟨hsz, ⟨h0, h1⟩, h⟩ := bif_f h
      have hsz := Nat.eq_of_beq_eq_true hsz
      obtain ⟨y, hy⟩ := getq (l := l) (k := i.toNat) (by omega)
      obtain ⟨a, cap, hv, _, _, hel⟩ := (lst_ok k hl).toRSl hD
      obtain ⟨ad, cs, ha, hcl, hrow, hR⟩ := hel _ y hy
      subst ha
      refine ⟨_, _, _, h y hy, .fptr (ad.add (i.toNat * D.size T)) cs _ 0 hrow hR, fun w oo hoo _ _ => ?_⟩
      rw [run_iaddr hv hj' h0 h1 hu hT w hoo, hsz]
      simp [Addr.add]
    · rename_i hl
      have hx := k.e x
      generalize hvx : ev n f x = vx at hx
      generalize e x = sx at h hx
      cases hx with
      | hnd o v hν hone =>
        simp only at h
        cases ho : ob o with
        | none => rw [ho] at h; exact h.elim
        | some a =>
          rw [ho] at h
          obtain ⟨hR, hok⟩ := k.o o a ho
          cases a with
          | vec ety T l =>
            obtain ⟨hsz, ⟨h0, h1⟩, h⟩ := bif_f h
            have hsz := Nat.eq_of_beq_eq_true hsz
            obtain ⟨v', xs, hν', hh, hE, _⟩ := hR
            rw [hν] at hν'; cases hν'
            rw [hh] at hok
            obtain ⟨g, cap, rfl⟩ := vec_pos hok (by omega)
            refine ⟨_, _, _, h, .eref T o i.toNat 0 g l.length cap hν (by omega), fun w oo hoo _ _ => ?_⟩
            rw [run_iaddr hvx hj' h0 h1 hu hT w hoo, hsz, add_lit, Nat.zero_add, Nat.add_zero]
          | _ => exact h.elim
      | _ => exact h.elim
  · rename_i len el hu
    obtain ⟨hT, h⟩ := bif_f h
    have hx := k.e x
    generalize hvx : ev n f x = vx at hx
    generalize e x = sx at h hx
    cases hx with
    | ref o off b hν =>
      simp only at h
      cases ho : ob o with
      | none => rw [ho] at h; exact h.elim
      | some a =>
        rw [ho] at h
        obtain ⟨hR, hok⟩ := k.o o a ho
        cases a with
        | arr ty T N l =>
          obtain ⟨hc, ⟨h0, h1⟩, h⟩ := bif_f h
          obtain ⟨hc, hN⟩ := and_b hc
          obtain ⟨hc, hsz⟩ := and_b hc
          have hc := Nat.eq_of_beq_eq_true hc
          have hN := Nat.eq_of_beq_eq_true hN
          have hsz := Nat.eq_of_beq_eq_true hsz
          refine ⟨_, _, _, h, .aref T N o i.toNat 0 b hν (by omega), fun w oo hoo _ _ => ?_⟩
          rw [run_iaddrA hvx hj' h0 h1 hu hT w hoo, hsz, add_lit, hc, Nat.zero_add, Nat.add_zero]
        | cells ty l =>
          simp only at h
          cases hq : constQ j with
          | false =>
            rw [hq] at h
            obtain ⟨⟨h0, h1⟩, h⟩ := h
            have h := casesN_at h (show i.toNat < len by omega) (by omega)
            refine ⟨_, _, _, h, .ref o _ b hν, fun w oo hoo _ _ => ?_⟩
            rw [run_iaddrA hvx hj' h0 (by omega) hu hT w hoo, add_lit]
          | true =>
          rw [hq] at h
          obtain ⟨hc, h⟩ := bif_f h
          obtain ⟨hlt, h0⟩ := and_b hc
          have h0 : 0 ≤ i := of_decide_eq_true h0
          have hlt : i.toNat < len := by rw [← Nat.blt_eq]; exact hlt
          refine ⟨_, _, _, h, .ref o _ b hν, fun w oo hoo _ _ => ?_⟩
          rw [run_iaddrA hvx hj' h0 (by omega) hu hT w hoo, add_lit]
        | _ => exact h.elim
    | fptr ad cs l off hrow hr =>
      obtain ⟨hc, h⟩ := bif_f h
      obtain ⟨hlt, h0⟩ := and_b hc
      have h0 : 0 ≤ i := of_decide_eq_true h0
      have hlt : i.toNat < len := by rw [← Nat.blt_eq]; exact hlt
      refine ⟨_, _, _, h, .fptr ad cs l _ hrow hr, fun w oo hoo _ _ => ?_⟩
      rw [run_iaddrA hvx hj' h0 (by omega) hu hT w hoo, addr_add]
    | fap ad cs T N l hN hrow hl hr =>
      obtain ⟨hc, ⟨h0, h1⟩, h⟩ := bif_f h
      obtain ⟨hsz, hN'⟩ := and_b hc
      have hN' := Nat.eq_of_beq_eq_true hN'
      have hsz := Nat.eq_of_beq_eq_true hsz
      obtain ⟨y, hy⟩ := getq (l := l) (k := i.toNat) (by omega)
      refine ⟨_, _, _, h y hy, .fptr (ad.add (i.toNat * D.size T)) _ _ 0 (VRow.part hrow rfl) (hr _ y hy), fun w oo hoo _ _ => ?_⟩
      rw [run_iaddrA hvx hj' h0 h1 hu hT w hoo, hsz]
      simp [Addr.add]
    | _ => exact h.elim
  · exact h.elim
theorem p_field {s : TypeId} {x : Operand} {i : Nat} (k : Kn D ν σ n f w e ob lkc oh) (h : pureOp P D e ob lkc (.field s x i) K) : PureOk P D ν σ ob oh (ev n f) (.field s x i) K := by
  simp only [pureOp] at h
  split at h
  case h_2 => exact h.elim
  rename_i fs l hu hx
  split at h
  case h_2 => exact h.elim
  rename_i fld hf
  obtain ⟨s', hs, hK⟩ := optK_some h
  have hr := hx ▸ k.e x
  generalize hvx : ev n f x = vx at hr
  cases hr with
  | agg cs _ hl h1 h2 =>
    obtain ⟨v, hv, _, hp⟩ := sub_ok (D := D) (ν := ν) (σ := σ) (cs := cs) ⟨hl, h1, h2⟩ hs
    exact ⟨_, _, v, hK, hv, fun w oo hoo _ _ => by simp [execOp, hoo, hvx, Instr.field, run_underlying hu, hf, asAgg, hp]⟩
theorem p_extract {x : Operand} {i : Nat} (k : Kn D ν σ n f w e ob lkc oh) (h : pureOp P D e ob lkc (.extract x i) K) : PureOk P D ν σ ob oh (ev n f) (.extract x i) K := by
  simp only [pureOp] at h
  split at h
  case h_2 => exact h.elim
  rename_i l hx
  obtain ⟨s', hs, hK⟩ := optK_some h
  have hr := hx ▸ k.e x
  generalize hvx : ev n f x = vx at hr
  cases hr with
  | tup cs _ hl h1 =>
    obtain ⟨v, hv⟩ := getq (l := cs) (k := i) (by rw [hl]; exact lt_of_getq hs)
    exact ⟨_, _, v, hK, h1 _ v s' hv hs, fun w oo hoo _ _ => by simp [execOp, hoo, hvx, Instr.extract, hv]⟩
theorem p_makeFunc {g : FuncId} {a b : Array Operand} (k : Kn D ν σ n f w e ob lkc oh) (h : pureOp P D e ob lkc (.makeFunc (.func g) a b) K) : PureOk P D ν σ ob oh (ev n f) (.makeFunc (.func g) a b) K := by
  have hm : ∀ (a : Array Operand) (j : Nat) v s, (a.toList.map (ev n f))[j]? = some v → (a.toList.map e)[j]? = some s → SRep D ν σ v s := by
    intro a j v s hv hs
    rw [List.getElem?_map] at hv hs
    rcases hq : a.toList[j]? with _ | x
    · rw [hq] at hv; cases hv
    · rw [hq] at hv hs; cases hv; cases hs
      exact k.e x
  refine ⟨_, _, .func (.func g) (a.toList.map (ev n f)).toArray (b.toList.map (ev n f)).toArray, h, .fn g _ _ _ _ (by simp) (hm a) (by simp) (hm b), fun w oo hoo _ _ => ?_⟩
  have e1 : ∀ a : Array Operand, (a.toList.map (ev n f)).toArray = a.map (ev n f) := by intro a; apply Array.ext'; simp
  rw [e1, e1]
  simp [execOp, hoo, Instr.makeFunc]
theorem arith_ok {k : IntKind} {r : Int} {K' : SV S → Prop} (h : arith k r K') : ∃ r', K' (.f (.int k r')) ∧ k.wrap r = r' := by
  unfold arith at h
  split at h
  · exact ⟨_, h.2, nwi rfl h.1⟩
  · exact ⟨_, h, rfl⟩
def BinOk (P : Program) (D : Shp S) (ν : Nm) (σ : Hv) (r : Operand → Value) (o : Op) (K : SV S → Prop) : Prop :=
  ∃ s v, K s ∧ SRep D ν σ v s ∧ ∀ (w : World) (oo : Oper), oo.op = o → (execOp r oo).run P w = .ok (.value v) w
theorem binI_ok {op : BinOp} {t u : TypeId} {x y : Operand} {k : IntKind} {a b : Int} {K : SV S → Prop} (hx : ev n f x = .int k a) (hy : ev n f y = .int k b) (h : binI op k a b K) :
    BinOk P D ν σ (ev n f) (.binOp op t x y u) K := by
  have run : ∀ (w : World) (oo : Oper) (v : Value), oo.op = .binOp op t x y u → (binOp op t (.int k a) (.int k b)).run P w = .ok v w → (execOp (ev n f) oo).run P w = .ok (.value v) w := by
    intro w oo v ho hr
    have hg : (eqGuard op t x y (.int k a) (.int k b)).run P w = .ok () w := by
      unfold eqGuard
      split <;> simp
    simp [execOp, ho, hx, hy, hg, hr]
  unfold binI at h
  split at h
  · obtain ⟨r, hK, hr⟩ := arith_ok h
    exact ⟨_, _, hK, .f (.int k r), fun w oo ho => run w oo _ ho (by simp [binOp, Op.intArith, hr])⟩
  · obtain ⟨r, hK, hr⟩ := arith_ok h
    exact ⟨_, _, hK, .f (.int k r), fun w oo ho => run w oo _ ho (by simp [binOp, Op.intArith, hr])⟩
  · obtain ⟨r, hK, hr⟩ := arith_ok h
    exact ⟨_, _, hK, .f (.int k r), fun w oo ho => run w oo _ ho (by simp [binOp, Op.intArith, hr])⟩
  · obtain ⟨r, hK, hr⟩ := arith_ok h.2
    exact ⟨_, _, hK, .f (.int k r), fun w oo ho => run w oo _ ho (by simp [binOp, Op.intDiv, hr, h.1])⟩
  · exact ⟨_, _, h.2, .f (.int k _), fun w oo ho => run w oo _ ho (by simp [binOp, Op.intDiv, h.1])⟩
  · exact ⟨_, _, h, .pb _ _, fun w oo ho => run w oo _ ho (by simp [binOp, Op.intCmp]; by_cases hab : a = b <;> simp [hab])⟩
  · exact ⟨_, _, h, .pbn _ _, fun w oo ho => run w oo _ ho (by simp [binOp, Op.intCmp]; by_cases hab : a = b <;> simp [hab])⟩
  · exact ⟨_, _, h, .pb _ _, fun w oo ho => run w oo _ ho (by simp [binOp, Op.intCmp])⟩
  · exact ⟨_, _, h, .pb _ _, fun w oo ho => run w oo _ ho (by simp [binOp, Op.intCmp])⟩
  · exact ⟨_, _, h, .pb _ _, fun w oo ho => run w oo _ ho (by simp [binOp, Op.intCmp])⟩
  · exact ⟨_, _, h, .pb _ _, fun w oo ho => run w oo _ ho (by simp [binOp, Op.intCmp])⟩
  · exact h.elim
theorem binT_ok {op : BinOp} {t u : TypeId} {x y : Operand} {a b : ByteArray} {K : SV S → Prop} (hx : ev n f x = .string a) (hy : ev n f y = .string b) (h : binT op a b K) :
    BinOk P D ν σ (ev n f) (.binOp op t x y u) K := by
  have run : ∀ (w : World) (oo : Oper) (v : Value), oo.op = .binOp op t x y u → (Op.stringOp op a b).run P w = .ok v w → (op ≠ .shl ∧ op ≠ .shr) → (execOp (ev n f) oo).run P w = .ok (.value v) w := by
    intro w oo v ho hr hs
    have hg : (eqGuard op t x y (.string a) (.string b)).run P w = .ok () w := by
      unfold eqGuard
      split <;> simp
    have hb : (binOp op t (.string a) (.string b)).run P w = .ok v w := by
      cases op <;> first | exact hr | exact absurd rfl hs.1 | exact absurd rfl hs.2
    simp [execOp, ho, hx, hy, hg, hb]
  have lt : Op.bytesLess a.toList b.toList = decide (blt a b) := less_blt a b
  unfold binT at h
  split at h
  · have h1 : ¬ ((a.size + b.size : Nat) : Int) > IntKind.i64.max := by
      have : IntKind.i64.max = 9223372036854775807 := rfl
      rw [this]; omega
    exact ⟨_, _, h.2, .f (.str (a ++ b)), fun w oo ho => run w oo _ ho (by simp only [Op.stringOp, if_neg h1]; rfl) (by simp)⟩
  · exact ⟨_, _, h, .pb _ _, fun w oo ho => run w oo _ ho (by simp [Op.stringOp, bytes_beq]) (by simp)⟩
  · exact ⟨_, _, h, .pbn _ _, fun w oo ho => run w oo _ ho (by simp [Op.stringOp, bytes_beq]) (by simp)⟩
  · exact ⟨_, _, h, .pb _ _, fun w oo ho => run w oo _ ho (by simp only [Op.stringOp, lt]; rfl) (by simp)⟩
  · refine ⟨_, _, h, .pbn _ _, fun w oo ho => run w oo _ ho ?_ (by simp)⟩
    have := geq_blt a b
    simp only [Op.stringOp, lt, bytes_beq]
    rw [show (decide (blt a b) || decide (a = b)) = !decide (blt b a) by rw [← this]; simp]
    rfl
  · refine ⟨_, _, h, .pb _ _, fun w oo ho => run w oo _ ho ?_ (by simp)⟩
    have := geq_blt a b
    simp only [Op.stringOp, lt, bytes_beq, this]
    rfl
  · refine ⟨_, _, h, .pbn _ _, fun w oo ho => run w oo _ ho ?_ (by simp)⟩
    simp only [Op.stringOp, lt]
    rfl
  · exact h.elim
theorem bool_ok {s : SV S} {v : Value} {b : Bool} (hs : SRep D ν σ v s) (h : boolS s = some b) : v = .bool b := by
  cases hs with
  | lit c => cases h; rfl
  | f hf =>
    cases hf with
    | bool c => cases h; rfl
    | _ => cases h
  | pb p d => cases h; rfl
  | pbn p d => cases h; rfl
  | _ => cases h
theorem shift_ok {op : BinOp} {t u : TypeId} {x y : Operand} {k k' : IntKind} {a b r : Int} {K : SV S → Prop} (hx : ev n f x = .int k a) (hy : ev n f y = .int k' b)
    (hop : op = .shl ∧ r = k.wrap (a * 2 ^ min b.toNat k.bits) ∨ op = .shr ∧ r = a.fdiv (2 ^ min b.toNat k.bits)) (hb : 0 ≤ b) (h : K (.f (.int k r))) : BinOk P D ν σ (ev n f) (.binOp op t x y u) K := by
  have hb' : ¬ b < 0 := by omega
  refine ⟨_, _, h, .f (.int k r), fun w oo ho => ?_⟩
  have hg : (eqGuard op t x y (.int k a) (.int k' b)).run P w = .ok () w := by
    unfold eqGuard
    split <;> simp
  rcases hop with ⟨rfl, rfl⟩ | ⟨rfl, rfl⟩ <;> simp [execOp, ho, hx, hy, hg, binOp, Op.shift, hb']
theorem bits_ok {op : BinOp} {t u : TypeId} {x y : Operand} {k k' : IntKind} {a b r : Int} {K : SV S → Prop} (hx : ev n f x = .int k a) (hy : ev n f y = .int k' b) (hk : (k == k') = true)
    (hop : op = .and ∧ r = k.wrap (BitVec.ofInt k.bits a &&& BitVec.ofInt k.bits b).toNat ∨ op = .or ∧ r = k.wrap (BitVec.ofInt k.bits a ||| BitVec.ofInt k.bits b).toNat ∨ op = .xor ∧ r = k.wrap (BitVec.ofInt k.bits a ^^^ BitVec.ofInt k.bits b).toNat)
    (h : K (.f (.int k r))) : BinOk P D ν σ (ev n f) (.binOp op t x y u) K := by
  have hk' : k = k' := by simpa using hk
  subst hk'
  refine ⟨_, _, h, .f (.int k r), fun w oo ho => ?_⟩
  have hg : (eqGuard op t x y (.int k a) (.int k b)).run P w = .ok () w := by
    unfold eqGuard
    split <;> simp
  rcases hop with ⟨rfl, rfl⟩ | ⟨rfl, rfl⟩ | ⟨rfl, rfl⟩ <;> simp only [execOp, ho, hx, hy, binOp, Op.intBits, Sem.run_bind, hg, Result.andThen_ok] <;> simp
theorem rep_nils {v : Value} (h : SRep D ν σ v (.f .nils)) : v = .slice none 0 0 := by
  cases h with
  | f h => cases h; rfl
theorem rep_hnd {v u : Value} {o : Nat} (h : SRep D ν σ v (.hnd o)) (hu : ν o = some u) : v = u := by
  cases h with
  | hnd _ v h _ => rw [hu] at h; cases h; rfl
theorem rep_sl {v : Value} {T : S.C} {l : List (S.car T)} (h : SRep D ν σ v (.f (.sl T l))) : RepF D σ v (.sl T l) := by
  cases h with
  | f h => exact h
theorem eqCell_ok {k : FK} {a b : SV S} {u v : Value} {q : (p : Prop) ×' Decidable p} (h : eqCell k a b = some q) (ha : SRep D ν σ u a) (hb : SRep D ν σ v b) : okV k u ∧ okV k v ∧ (q.1 ↔ u = v) := by
  cases k with
  | int k =>
    simp only [eqCell] at h
    split at h
    case h_2 => cases h
    rename_i k1 x k2 y
    obtain ⟨hc, h'⟩ := bif_some' h
    clear h
    obtain ⟨h1, h2⟩ := and_b hc
    have h1 : k1 = k := by simpa using h1
    have h2 : k2 = k := by simpa using h2
    subst h1 h2
    cases h'
    rw [rep_int ha, rep_int hb]
    exact ⟨⟨_, rfl⟩, ⟨_, rfl⟩, by simp⟩
  | bool =>
    simp only [eqCell] at h
    split at h
    case h_2 => cases h
    rename_i x y hx hy
    cases h
    rw [bool_ok ha hx, bool_ok hb hy]
    exact ⟨⟨_, rfl⟩, ⟨_, rfl⟩, by simp⟩
  | str =>
    simp only [eqCell] at h
    split at h
    case h_2 => cases h
    cases h
    rw [rep_str ha, rep_str hb]
    exact ⟨⟨_, rfl⟩, ⟨_, rfl⟩, by simp⟩
theorem eqCells_ok : ∀ {ks : List FK} {l l' : List (SV S)} {cs cs' : List Value} {q : (p : Prop) ×' Decidable p}, eqCells ks l l' = some q → cs.length = l.length → cs'.length = l'.length → (∀ (j : Nat) v s, cs[j]? = some v → l[j]? = some s → SRep D ν σ v s) →
    (∀ (j : Nat) v s, cs'[j]? = some v → l'[j]? = some s → SRep D ν σ v s) → Conf ks cs ∧ Conf ks cs' ∧ (q.1 ↔ cs = cs')
  | [], l, l', cs, cs', q, h, _, _, _, _ => by simp [eqCells] at h
  | [k], l, l', cs, cs', q, h, h1, h2, h3, h4 => by
    match l, l', h with
    | [a], [b], h =>
      match cs, cs', h1, h2 with
      | [u], [v], _, _ =>
        obtain ⟨x, y, z⟩ := eqCell_ok h (h3 0 u a rfl rfl) (h4 0 v b rfl rfl)
        refine ⟨⟨rfl, fun i k' w hk hw => ?_⟩, ⟨rfl, fun i k' w hk hw => ?_⟩, by rw [z]; simp⟩
        · cases i with
          | zero => cases hk; cases hw; exact x
          | succ i => simp at hk
        · cases i with
          | zero => cases hk; cases hw; exact y
          | succ i => simp at hk
    | [], _, h => simp [eqCells] at h
    | [_], [], h => simp [eqCells] at h
    | _ :: _ :: _, [], h => simp [eqCells] at h
    | [_], _ :: _ :: _, h => simp [eqCells] at h
    | _ :: _ :: _, _ :: _, h => simp [eqCells] at h
  | k :: k' :: ks, l, l', cs, cs', q, h, h1, h2, h3, h4 => by
    match l, l', h with
    | [], _, h => simp [eqCells] at h
    | _ :: _, [], h => simp [eqCells] at h
    | a :: l, b :: l', h =>
      match cs, cs', h1, h2 with
      | u :: cs, v :: cs', h1, h2 =>
        simp only [eqCells] at h
        split at h
        case h_2 => cases h
        rename_i p d q' e hp hq
        cases h
        obtain ⟨x, y, z⟩ := eqCell_ok hp (h3 0 u a rfl rfl) (h4 0 v b rfl rfl)
        obtain ⟨x', y', z'⟩ := eqCells_ok hq (by simpa using h1) (by simpa using h2) (fun j v s hj hs => h3 (j + 1) v s (by simpa using hj) (by simpa using hs)) (fun j v s hj hs => h4 (j + 1) v s (by simpa using hj) (by simpa using hs))
        refine ⟨⟨by have := x'.1; simp at this ⊢; exact this, fun i kk w hk hw => ?_⟩, ⟨by have := y'.1; simp at this ⊢; exact this, fun i kk w hk hw => ?_⟩, ?_⟩
        · cases i with
          | zero => cases hk; cases hw; exact x
          | succ i => exact x'.2 i kk w (by simpa using hk) (by simpa using hw)
        · cases i with
          | zero => cases hk; cases hw; exact y
          | succ i => exact y'.2 i kk w (by simpa using hk) (by simpa using hw)
        · show p ∧ q' ↔ _
          rw [show (p ↔ u = v) from z, show (q' ↔ cs = cs') from z']
          simp
theorem rep_agg {v : Value} {l : List (SV S)} (h : SRep D ν σ v (.agg l)) : ∃ cs : List Value, v = .agg cs.toArray ∧ cs.length = l.length ∧ ∀ (j : Nat) u s, cs[j]? = some u → l[j]? = some s → SRep D ν σ u s := by
  cases h with
  | agg cs ss hl h h1 => exact ⟨cs, rfl, hl, h⟩
theorem run_equalIn_nn {t : TypeId} {ms : Array (String × TypeId)} (hu : P.underlying t = some (.interface ms)) (d : Nat) (w : World) : (Op.equalIn (d + 1) t .nilIface .nilIface).run P w = .ok true w := by
  simp [Op.equalIn, Sem.run_bind, run_underlying hu]
theorem run_equalIn_in {t : TypeId} {ms : Array (String × TypeId)} (hu : P.underlying t = some (.interface ms)) (d : Nat) (w : World) (a : TypeId) (p : Value) : (Op.equalIn (d + 1) t (.iface a p) .nilIface).run P w = .ok false w := by
  simp [Op.equalIn, Sem.run_bind, run_underlying hu]
theorem p_binOp {op : BinOp} {t u : TypeId} {x y : Operand} (hD : D.Ok) (k : Kn D ν σ n f w e ob lkc oh) (h : pureOp P D e ob lkc (.binOp op t x y u) K) : PureOk P D ν σ ob oh (ev n f) (.binOp op t x y u) K := by
  suffices hs : BinOk P D ν σ (ev n f) (.binOp op t x y u) (K []) by
    obtain ⟨s, v, h1, h2, h3⟩ := hs
    exact ⟨[], s, v, h1, h2, fun w oo ho _ _ => h3 w oo ho⟩
  simp only [pureOp] at h
  have kx := k.e x
  have ky := k.e y
  split at h
  · split at h
    case h_2 => exact h.elim
    rename_i b ms hx hu
    rw [hx] at kx
    have hi : (ev n f x = .nilIface ∧ b = true) ∨ (∃ t' p, ev n f x = .iface t' p ∧ b = false) := by
      generalize ev n f x = u at kx
      cases kx with
      | f hf =>
        cases hf with
        | ifcN => exact .inl ⟨rfl, rfl⟩
        | ifcS t' p => exact .inr ⟨t', p, rfl, rfl⟩
    have hy : ev n f (.const .nilIface) = .nilIface := rfl
    split at h
    · refine ⟨_, _, h, .f (.bool _), fun w oo ho => ?_⟩
      rcases hi with ⟨h1, rfl⟩ | ⟨t', p, h1, rfl⟩ <;> simp [execOp, ho, h1, hy, eqGuard, binOp, Op.equal, Op.maxDepth, run_equalIn_nn hu 9999, run_equalIn_in hu 9999]
    · refine ⟨_, _, h, .f (.bool _), fun w oo ho => ?_⟩
      rcases hi with ⟨h1, rfl⟩ | ⟨t', p, h1, rfl⟩ <;> simp [execOp, ho, h1, hy, eqGuard, binOp, Op.equal, Op.maxDepth, run_equalIn_nn hu 9999, run_equalIn_in hu 9999]
    · exact h.elim
  unfold binS at h
  split at h
  · rename_i k1 a k2 b hx hy
    have hx' := rep_int (hx ▸ kx)
    have hy' := rep_int (hy ▸ ky)
    split at h
    · exact shift_ok hx' hy' (.inl ⟨rfl, rfl⟩) h.1 h.2
    · exact shift_ok hx' hy' (.inr ⟨rfl, rfl⟩) h.1 h.2
    · obtain ⟨hk, h⟩ := bif_f h
      exact bits_ok hx' hy' hk (.inl ⟨rfl, rfl⟩) h
    · obtain ⟨hk, h⟩ := bif_f h
      exact bits_ok hx' hy' hk (.inr (.inl ⟨rfl, rfl⟩)) h
    · obtain ⟨hk, h⟩ := bif_f h
      exact bits_ok hx' hy' hk (.inr (.inr ⟨rfl, rfl⟩)) h
    · obtain ⟨hk, h2⟩ := bif_f h
      have hk' : k1 = k2 := by simpa using hk
      clear h
      subst hk'
      exact binI_ok hx' hy' h2
  · rename_i a b hx hy
    exact binT_ok (rep_str (hx ▸ kx)) (rep_str (hy ▸ ky)) h
  · rename_i T l hx hy
    have hr := rep_sl (hx ▸ kx)
    have hy' : ev n f y = .slice none 0 0 := rep_nils (hy ▸ ky)
    obtain ⟨a, cap, hv, _, _, hel⟩ := hr.toRSl hD
    have hnil : a.isNone = true → l = [] := fun ha => by
      cases l with
      | nil => rfl
      | cons z l =>
        obtain ⟨ad, _, ha', _⟩ := hel 0 z rfl
        subst ha'; cases ha
    split at h
    case h_2 => exact h.elim
    rename_i el hu
    split at h
    · exact ⟨_, _, h a.isNone hnil, .f (.bool _), fun w oo ho => by
        simp [execOp, ho, hv, hy', eqGuard, binOp, Op.equal, Op.maxDepth, Lib.run_equalIn_slice_nil w 9999 t el a l.length cap 0 0 hu]⟩
    · exact ⟨_, _, h (!a.isNone) (fun ha => hnil (by simpa using ha)), .f (.bool _), fun w oo ho => by
        simp [execOp, ho, hv, hy', eqGuard, binOp, Op.equal, Op.maxDepth, Lib.run_equalIn_slice_nil w 9999 t el a l.length cap 0 0 hu]⟩
    · exact h.elim
  · rename_i o off hx hy
    split at h
    case h_2 => exact h.elim
    rename_i el hu
    have kx' : SRep D ν σ (ev n f x) (.ref o off) := hx ▸ kx
    have ky' : SRep D ν σ (ev n f y) (.f .nilp) := hy ▸ ky
    have hu' : P.underlying t = some (.pointer (P.pointee t)) := by rw [hu]; simp [Program.pointee, hu]
    obtain ⟨a, hv⟩ : ∃ a, ev n f x = .pointer (some a) := by
      generalize ev n f x = u at kx'
      cases kx' with
      | ref _ _ b _ => exact ⟨_, rfl⟩
    have hv' : ev n f y = .pointer none := by
      generalize ev n f y = u at ky'
      cases ky' with
      | f hf => cases hf; rfl
    split at h
    · exact ⟨_, _, h, .lit false, fun w oo ho => by
        simp [execOp, ho, hv, hv', eqGuard, binOp, Op.equal, Op.maxDepth, run_equalIn_pointer_nil w 9999 t (some a) hu']⟩
    · exact ⟨_, _, h, .lit true, fun w oo ho => by
        simp [execOp, ho, hv, hv', eqGuard, binOp, Op.equal, Op.maxDepth, run_equalIn_pointer_nil w 9999 t (some a) hu']⟩
    · exact h.elim
  · rename_i l l' hx hy
    split at h
    case h_2 => exact h.elim
    rename_i ks hq
    obtain ⟨hg, h⟩ := bif_f h
    obtain ⟨q, hc, h⟩ := optK_some h
    have kx' : SRep D ν σ (ev n f x) (.agg l) := hx ▸ kx
    have ky' : SRep D ν σ (ev n f y) (.agg l') := hy ▸ ky
    obtain ⟨cs, hv, h1, h2⟩ := rep_agg kx'
    obtain ⟨cs', hv', h1', h2'⟩ := rep_agg ky'
    obtain ⟨c1, c2, hiff⟩ := eqCells_ok hc h1 h1' h2 h2'
    have hg' : P.eqGuardType P.depth t = false := by simpa using hg
    have run : ∀ w, (Op.equalIn 10000 t (.agg cs.toArray) (.agg cs'.toArray)).run P w = .ok (@decide q.1 q.2) w := by
      intro w
      obtain ⟨r, hr, hi⟩ := eq_flat hq c1 c2 9998 w
      rw [hr]
      have : r = @decide q.1 q.2 := by
        cases r with
        | true => exact (@decide_eq_true _ q.2 (hiff.2 (hi.1 rfl))).symm
        | false => exact (@decide_eq_false _ q.2 fun hp => absurd (hi.2 (hiff.1 hp)) (by simp)).symm
      rw [this]
    split at h
    · exact ⟨_, _, h, .pb _ _, fun w oo ho => by
        simp [execOp, ho, hv, hv', run_eqGuard_agg w .eql t x y _ _ hg', run_eql_struct, run w]⟩
    · exact ⟨_, _, h, .pbn _ _, fun w oo ho => by
        simp [execOp, ho, hv, hv', run_eqGuard_agg w .neq t x y _ _ hg', run_neq_struct, run w]⟩
    · exact h.elim
  · split at h
    case h_2 => exact h.elim
    rename_i a b hu ha hb
    have hx' := bool_ok kx ha
    have hy' := bool_ok ky hb
    split at h
    · exact ⟨_, _, h, .pb _ _, fun w oo ho => by
        simp [execOp, ho, hx', hy', eqGuard, run_eql_bool _ _ _ _ hu]
        cases a <;> cases b <;> rfl⟩
    · exact ⟨_, _, h, .pbn _ _, fun w oo ho => by
        simp [execOp, ho, hx', hy', eqGuard, run_neq_bool _ _ _ _ hu]
        cases a <;> cases b <;> rfl⟩
    · exact h.elim
theorem p_not {t : TypeId} {x : Operand} (k : Kn D ν σ n f w e ob lkc oh) (h : pureOp P D e ob lkc (.unOp .not t x) K) : PureOk P D ν σ ob oh (ev n f) (.unOp .not t x) K := by
  simp only [pureOp] at h
  have hx := k.e x
  generalize hvx : ev n f x = vx at hx
  generalize e x = sx at h hx
  cases hx with
  | lit b => exact ⟨_, _, _, h, .lit _, fun w oo ho _ _ => by simp [execOp, ho, hvx, Op.unary]⟩
  | f hf =>
    cases hf with
    | bool b => exact ⟨_, _, _, h, .pbn _ _, fun w oo ho _ _ => by cases b <;> simp [execOp, ho, hvx, Op.unary]⟩
    | _ => exact h.elim
  | pb p d => exact ⟨_, _, _, h, .pbn _ _, fun w oo ho _ _ => by simp [execOp, ho, hvx, Op.unary]⟩
  | pbn p d => exact ⟨_, _, _, h, .pb _ _, fun w oo ho _ _ => by simp [execOp, ho, hvx, Op.unary]⟩
  | _ => exact h.elim
theorem p_neg {t : TypeId} {x : Operand} (k : Kn D ν σ n f w e ob lkc oh) (h : pureOp P D e ob lkc (.unOp .neg t x) K) : PureOk P D ν σ ob oh (ev n f) (.unOp .neg t x) K := by
  simp only [pureOp] at h
  split at h
  case h_2 => exact h.elim
  rename_i kd a hx
  obtain ⟨r, hK, hr⟩ := arith_ok h
  exact ⟨_, _, _, hK, .f (.int kd r), fun w oo ho _ _ => by simp only [execOp, ho, rep_int (hx ▸ k.e x), Op.unary, Op.intArith, hr]; rfl⟩
theorem p_convert {s d : TypeId} {x : Operand} (k : Kn D ν σ n f w e ob lkc oh) (h : pureOp P D e ob lkc (.convert s d x) K) : PureOk P D ν σ ob oh (ev n f) (.convert s d x) K := by
  simp only [pureOp] at h
  split at h
  · rename_i k1 a k2 k' hx h1 h2
    obtain ⟨r, hK, hr⟩ := arith_ok h
    refine ⟨_, _, _, hK, .f (.int k' r), fun w oo ho _ _ => ?_⟩
    subst hr
    simp [execOp, ho, rep_int (hx ▸ k.e x), convert, run_underlying h1, run_underlying h2, Conv.intToInt]
  · rename_i a hx h1 h2
    exact ⟨_, _, _, h, .f (.str a), fun w oo ho _ _ => by simp [execOp, ho, rep_str (hx ▸ k.e x), convert, run_underlying h1, run_underlying h2]⟩
  · rename_i k1 a k2 hx h1 h2
    exact ⟨_, _, _, h, .f (.str _), fun w oo ho _ _ => by simp [execOp, ho, rep_int (hx ▸ k.e x), convert, run_underlying h1, run_underlying h2, Conv.intToString]⟩
  · exact h.elim
theorem cellsS_ok {v : Value} {s : SV S} {l : List (SV S)} (hs : SRep D ν σ v s) (h : cellsS s = some l) : RowS D ν σ v.cells.toList l := by
  have one : ∀ {v : Value} {s : SV S}, SRep D ν σ v s → v.cells = #[v] → v.oneCell' = true → RowS D ν σ v.cells.toList [s] := by
    intro v s hs hc h1
    rw [hc]
    refine ⟨rfl, fun j u t hj ht => ?_, fun u hu => ?_⟩
    · cases j with
      | zero => cases hj; cases ht; exact hs
      | succ j => cases hj
    · simp at hu; subst hu; exact h1
  cases hs with
  | f hf => cases h; exact one (.f hf) hf.cells hf.one
  | lit b => cases h; exact one (.lit b) rfl rfl
  | pb p d => cases h; exact one (.pb p d) rfl rfl
  | pbn p d => cases h; exact one (.pbn p d) rfl rfl
  | agg cs ss hl h' h1 => cases h; exact ⟨hl, h', h1⟩
  | tup => cases h
  | arr => cases h
  | ref o off b hν => cases h; exact one (.ref o off b hν) rfl rfl
  | eref T o i off b m cap hν hi => cases h; exact one (.eref T o i off b m cap hν hi) rfl rfl
  | aref T N o i off b hν hi => cases h; exact one (.aref T N o i off b hν hi) rfl rfl
  | fptr ad cs l off hr hR => cases h; exact one (.fptr ad cs l off hr hR) rfl rfl
  | fap ad cs T N l hN hr hl hR => cases h; exact one (.fap ad cs T N l hN hr hl hR) rfl rfl
  | hnd o v hν h1 =>
    cases h
    refine one (.hnd o _ hν h1) ?_ h1
    cases v <;> first | rfl | cases h1
  | fn g a b first cap h1 h2 h3 h4 => cases h; exact one (.fn g a b first cap h1 h2 h3 h4) rfl rfl
  | und => cases h
  | dead => cases h
theorem rowS_splice {cs vs : List Value} {l ss : List (SV S)} {off : Nat} (h : RowS D ν σ cs l) (k : RowS D ν σ vs ss) (hle : off + ss.length ≤ l.length) :
    RowS D ν σ (cs.take off ++ vs ++ cs.drop (off + vs.length)) (l.take off ++ ss ++ l.drop (off + ss.length)) := by
  have e1 := h.1
  have e2 := k.1
  refine ⟨by simp only [List.length_append, List.length_take, List.length_drop]; omega, fun j v s hj hs => ?_, fun v hv => ?_⟩
  · have t1 : (cs.take off).length = off := by rw [List.length_take]; omega
    have t2 : (l.take off).length = off := by rw [List.length_take]; omega
    rw [List.append_assoc] at hj hs
    rcases Nat.lt_or_ge j off with hlt | hge
    · rw [List.getElem?_append_left (by omega)] at hj hs
      rw [List.getElem?_take_of_lt hlt] at hj hs
      exact h.2.1 j v s hj hs
    · rw [List.getElem?_append_right (by omega)] at hj hs
      rw [t1] at hj; rw [t2] at hs
      rcases Nat.lt_or_ge (j - off) ss.length with hlt | hge'
      · rw [List.getElem?_append_left (by omega)] at hj hs
        exact k.2.1 _ v s hj hs
      · rw [List.getElem?_append_right (by omega)] at hj hs
        rw [List.getElem?_drop] at hj hs
        have e3 : off + vs.length + (j - off - vs.length) = off + ss.length + (j - off - ss.length) := by omega
        rw [e3] at hj
        exact h.2.1 _ v s hj hs
  · rcases List.mem_append.1 hv with hv | hv
    · rcases List.mem_append.1 hv with hv | hv
      · exact h.2.2 v (List.mem_of_mem_take hv)
      · exact k.2.2 v hv
    · exact h.2.2 v (List.mem_of_mem_drop hv)
theorem setCells_eq (vs : List Value) : ∀ (cs : List Value) (off : Nat), off + vs.length ≤ cs.length →
    ((vs.zipIdx).foldl (fun (a : Array Value) (q : Value × Nat) => a.setIfInBounds (off + q.2) q.1) cs.toArray) = (cs.take off ++ vs ++ cs.drop (off + vs.length)).toArray := by
  suffices H : ∀ (vs : List Value) (k : Nat) (cs : List Value) (off : Nat), off + k + vs.length ≤ cs.length →
      ((vs.zipIdx k).foldl (fun (a : Array Value) (q : Value × Nat) => a.setIfInBounds (off + q.2) q.1) cs.toArray) = (cs.take (off + k) ++ vs ++ cs.drop (off + k + vs.length)).toArray by
    intro cs off h
    simpa using H vs 0 cs off (by omega)
  intro vs
  induction vs with
  | nil => intro k cs off h; simp
  | cons v vs ih =>
    intro k cs off h
    simp only [List.length_cons] at h
    rw [List.zipIdx_cons, List.foldl_cons]
    have e1 : (cs.toArray.setIfInBounds (off + k) v) = (cs.set (off + k) v).toArray := by simp
    rw [e1, ih (k + 1) (cs.set (off + k) v) off (by simp; omega)]
    congr 1
    have hlt : off + k < cs.length := by omega
    have e2 : (cs.set (off + k) v).take (off + (k + 1)) = cs.take (off + k) ++ [v] := by
      rw [← Nat.add_assoc, List.take_add_one, List.take_set_of_le (Nat.le_refl _)]
      simp [hlt]
    have e3 : (cs.set (off + k) v).drop (off + (k + 1) + vs.length) = cs.drop (off + k + (v :: vs).length) := by
      rw [List.drop_set_of_lt (by omega)]
      congr 1
      simp; omega
    rw [e2, e3]
    simp
theorem fill_ok {place : Nat → Option (Nat × Nat)} {r : Operand → Value} (hr : ∀ x, SRep D ν σ (r x) (e x)) : ∀ (parts : List (Nat × Operand)) (cs : List Value) (l l' : List (SV S)), RowS D ν σ cs l →
    fillS place l (parts.map fun q => (q.1, e q.2)) = some l' → ∃ cs', RowS D ν σ cs' l' ∧ Instr.fill place cs.toArray (parts.map fun q => (q.1, r q.2)) = some cs'.toArray := by
  intro parts
  induction parts with
  | nil => intro cs l l' h hf; cases hf; exact ⟨cs, h, rfl⟩
  | cons q parts ih =>
    intro cs l l' h hf
    simp only [List.map_cons, fillS] at hf
    split at hf
    · rename_i off k ss hp hc
      have hc' := cellsS_ok (hr q.2) hc
      cases hb : (Nat.beq ss.length k && Nat.ble (off + k) l.length) with
      | false => rw [hb] at hf; cases hf
      | true =>
        rw [hb] at hf
        obtain ⟨h1, h2⟩ := and_b hb
        have h1 := Nat.eq_of_beq_eq_true h1
        have h2 := Nat.le_of_ble_eq_true h2
        subst h1
        have hs := rowS_splice h hc' h2
        obtain ⟨cs', hr', hf'⟩ := ih _ _ _ hs hf
        refine ⟨cs', hr', ?_⟩
        have el := hc'.1
        have el2 := h.1
        rw [List.map_cons, Instr.fill]
        simp only [hp]
        rw [if_neg (by simp only [Bool.or_eq_true, decide_eq_true_eq, ne_eq, List.size_toArray]; rw [← Array.length_toList, el]; omega)]
        have := setCells_eq (r q.2).cells.toList cs off (by rw [el, el2]; exact h2)
        rw [el] at this
        rw [← hf']
        congr 1
        rw [el, ← this, ← Array.foldl_toList, Array.toList_zipIdx]
    · cases hf
theorem zero_row {cs : List Value} (h : cs.all isZ = true) : RowS D ν σ cs (cs.map fun v => SV.f (ofZero v)) := by
  have key : ∀ v, isZ v = true → RepF D σ v (ofZero v) := by
    intro v hv
    unfold isZ at hv
    split at hv
    · exact .bool _
    · exact .int _ _
    · exact .str _
    · exact .nils
    · exact .nilp
    · exact .nilm
    · exact .nilf
    · cases hv
  refine ⟨by simp, fun j v s hj hs => ?_, fun v hv => ?_⟩
  · rw [List.getElem?_map, hj] at hs
    cases hs
    exact .f (key v ((List.all_eq_true.1 h) v (List.mem_of_getElem? hj)))
  · exact (key v ((List.all_eq_true.1 h) v hv)).one
end Go.Fx
end
section
namespace Go.Fx
open Go Go.RowKit Go.Fl Go.Fl.Lk
variable {S : Sig} {P : Program} {D : Shp S} {ν : Nm} {σ : Hv} {n : Nat} {f : Fr}
variable {w : World} {e : Operand → SV S} {ob : Nat → Option (AO S)} {lkc : Nat → Nat → SV S} {oh : Nat → HObj} {K : List Nat → SV S → Prop}
theorem mapM_fields {fs : Array Field} (hT : fs.toList.all (fun f => hasT P f.type) = true) (w : World) :
    (fs.mapM fun f => (do pure (f.offset, ← sizeOf f.type) : Sem (Nat × Nat))).run P w = .ok (fs.map fun f => (f.offset, szQ P f.type)) w := by
  have key : ∀ (l : List Field) (w : World), l.all (fun f => hasT P f.type) = true → (l.mapM fun f => (do pure (f.offset, ← sizeOf f.type) : Sem (Nat × Nat))).run P w = .ok (l.map fun f => (f.offset, szQ P f.type)) w := by
    intro l
    induction l with
    | nil => intro w _; rfl
    | cons x l ih =>
      intro w h
      obtain ⟨h1, h2⟩ : hasT P x.type = true ∧ l.all (fun f => hasT P f.type) = true := by simpa using h
      rw [List.mapM_cons]
      simp only [Sem.run_bind, run_szQ h1, Result.andThen_ok, Sem.run_pure, ih w h2, List.map_cons]
  have := key fs.toList w hT
  rw [Array.mapM_eq_mapM_toList, map_eq_pure_bind]
  simp only [Sem.run_bind, this, Result.andThen_ok, Sem.run_pure]
  congr 1
  apply Array.ext'
  simp
theorem p_build {t : TypeId} {parts : Array (Nat × Operand)} (k : Kn D ν σ n f w e ob lkc oh) (h : pureOp P D e ob lkc (.build t parts) K) : PureOk P D ν σ ob oh (ev n f) (.build t parts) K := by
  have zr : ∀ {z : Value}, (P.info? t).bind (·.zero) = some z → ∀ w, (zeroValue t).run P w = .ok z w := by
    intro z hz w
    obtain ⟨i, hi, hz⟩ := Option.bind_eq_some_iff.1 hz
    simp [zeroValue, typeInfo, hi, hz]
  have hparts : (parts.map fun (i, x) => (i, ev n f x)).toList = parts.toList.map fun q => (q.1, ev n f q.2) := by simp
  simp only [pureOp] at h
  split at h
  · rename_i fs z hu hz
    obtain ⟨hc, h⟩ := bif_f h
    obtain ⟨hz1, hT⟩ := and_b hc
    obtain ⟨l, hf, hK⟩ := optK_some h
    obtain ⟨cs', hr, hfill⟩ := fill_ok (D := D) (ν := ν) (σ := σ) (r := ev n f) k.e parts.toList _ _ _ (zero_row hz1) hf
    refine ⟨_, _, .agg cs'.toArray, hK, .agg cs' l hr.1 hr.2.1 hr.2.2, fun w oo ho _ _ => ?_⟩
    have hpl : (fun (i : Nat) => (fs.map fun f => (f.offset, szQ P f.type))[i]?) = fun i => (fs[i]?).map fun f => (f.offset, szQ P f.type) := by
      funext i; simp
    simp only [execOp, ho, Instr.build, Sem.run_bind, zr hz, Result.andThen_ok, run_underlying hu, mapM_fields hT, hparts, hpl]
    rw [Array.toArray_toList] at hfill
    rw [hfill]
    rfl
  · rename_i len el z hu hz
    obtain ⟨hc, h⟩ := bif_f h
    obtain ⟨hz1, hT⟩ := and_b hc
    obtain ⟨l, hf, hK⟩ := optK_some h
    obtain ⟨cs', hr, hfill⟩ := fill_ok (D := D) (ν := ν) (σ := σ) (r := ev n f) k.e parts.toList _ _ _ (zero_row hz1) hf
    refine ⟨_, _, .agg cs'.toArray, hK, .agg cs' l hr.1 hr.2.1 hr.2.2, fun w oo ho _ _ => ?_⟩
    simp only [execOp, ho, Instr.build, Sem.run_bind, zr hz, Result.andThen_ok, run_underlying hu, run_szQ hT, hparts]
    rw [Array.toArray_toList] at hfill
    rw [hfill]
    rfl
  · exact h.elim
theorem p_index {t : TypeId} {x j : Operand} (hD : D.Ok) (k : Kn D ν σ n f w e ob lkc oh) (h : pureOp P D e ob lkc (.index t x j) K) : PureOk P D ν σ ob oh (ev n f) (.index t x j) K := by
  simp only [pureOp] at h
  split at h
  case h_2 => exact h.elim
  rename_i i hj
  have hj' := rep_int (hj ▸ k.e j)
  split at h
  · rename_i len el T N l hu hx
    obtain ⟨hc, ⟨h0, h1⟩, h⟩ := bif_f h
    obtain ⟨hc, hN⟩ := and_b hc
    obtain ⟨hc, hsz⟩ := and_b hc
    obtain ⟨hT, hA⟩ := and_b hc
    have hA : aggQ P el = false := by simpa using hA
    have hN := Nat.eq_of_beq_eq_true hN
    have hsz := Nat.eq_of_beq_eq_true hsz
    have hr := hx ▸ k.e x
    generalize hvx : ev n f x = vx at hr
    cases hr with
    | arr cs _ _ _ hN' hl hrow =>
      obtain ⟨y, hy⟩ := getq (l := l) (k := i.toNat) (by omega)
      obtain ⟨s, hs, hK⟩ := optK_some (h y hy)
      obtain ⟨v, hv, _, hp⟩ := sub_ok (D := D) (ν := ν) ((hrow _ y hy).toS) hs
      refine ⟨_, _, v, hK, hv, fun w oo ho _ _ => ?_⟩
      have hlt : i.toNat * D.size T < cs.length := by
        rw [hl]
        have : i.toNat < l.length := by omega
        have h2 : (i.toNat + 1) * D.size T ≤ l.length * D.size T := Nat.mul_le_mul_right _ this
        rw [Nat.add_mul, Nat.one_mul] at h2
        have := hD.pos T
        omega
      have hpart : (part el cs.toArray (i.toNat * szQ P el)).run P w = .ok v w := by
        have := hp w
        simp only [part, Sem.run_bind, run_aggQ hT, Result.andThen_ok, hA, Bool.false_eq_true, if_false] at this ⊢
        have e1 : cs.toArray[i.toNat * szQ P el]? = ((cs.drop (i.toNat * D.size T)).take (D.size T)).toArray[0]? := by
          rw [hsz]
          simp only [List.getElem?_toArray]
          rw [List.getElem?_take, if_pos (hD.pos T)]
          simp
        rw [e1]; exact this
      have hb : 0 ≤ i ∧ i < (len : Int) := ⟨h0, h1⟩
      simp only [execOp, ho, hvx, hj', Instr.index, asIntOf, Sem.run_bind, Sem.run_pure, Result.andThen_ok, run_underlying hu, if_pos hb, run_szQ hT, hpart]
  · rename_i s hu hx
    obtain ⟨⟨h0, h1⟩, h⟩ := h
    have hlt : i.toNat < s.size := by omega
    obtain ⟨b, hb⟩ : ∃ b, s[i.toNat]? = some b := ⟨s[i.toNat], by simp [hlt]⟩
    refine ⟨_, _, _, h b hb, .f (.int .u8 _), fun w oo ho _ _ => ?_⟩
    simp [execOp, ho, rep_str (hx ▸ k.e x), hj', Instr.index, asIntOf, run_underlying hu, h0, hb]
  · exact h.elim
theorem vec_lenv {o : Nat} {v : Value} {a : AO S} {ety : TypeId} {T : S.C} {l : List (S.car T)} (k : Kn D ν σ n f w e ob lkc oh) (hν : ν o = some v) (ho : ob o = some a) (ha : a = .vec ety T l) : ∃ ad cap, v = .slice ad l.length cap ∧ l.length ≤ 140737488355328 := by
  subst ha
  obtain ⟨hR, hok⟩ := k.o o _ ho
  obtain ⟨v', xs, hν', hh, hE, hb⟩ := hR
  rw [hν] at hν'; cases hν'
  rw [hh] at hok
  obtain ⟨a, cap, hv⟩ := vec_any hok
  exact ⟨a, cap, hv, hb⟩
theorem p_len {args : Array Operand} {ts : Array TypeId} (hD : D.Ok) (k : Kn D ν σ n f w e ob lkc oh) (h : pureOp P D e ob lkc (.call ⟨.builtin .len, args, ts⟩) K) : PureOk P D ν σ ob oh (ev n f) (.call ⟨.builtin .len, args, ts⟩) K := by
  simp only [pureOp] at h
  split at h
  case h_2 => exact h.elim
  rename_i x t ha ht
  have ha' : args = #[x] := by apply Array.ext'; simpa using ha
  have ht' : ts = #[t] := by apply Array.ext'; simpa using ht
  subst ha' ht'
  have runS : ∀ (el : TypeId) (a : Option Addr) (len cap : Nat), P.underlying t = some (.slice el) → ev n f x = .slice a len cap → ∀ (w : World) (oo : Oper), oo.op = .call ⟨.builtin .len, #[x], #[t]⟩ → (execOp (ev n f) oo).run P w = .ok (.value (.int .i64 ((len : Nat) : Int))) w := by
    intro el a len cap hu hv w oo ho
    simp [execOp, ho, hv, resolve, invoke, builtin, Builtin.len_, run_underlying hu, goInt]
  have runT : ∀ (s : ByteArray), P.underlying t = some .string → ev n f x = .string s → ∀ (w : World) (oo : Oper), oo.op = .call ⟨.builtin .len, #[x], #[t]⟩ → (execOp (ev n f) oo).run P w = .ok (.value (.int .i64 ((s.size : Nat) : Int))) w := by
    intro s hu hv w oo ho
    simp [execOp, ho, hv, resolve, invoke, builtin, Builtin.len_, run_underlying hu, goInt]
  have hx := k.e x
  split at h
  · rename_i el hu
    generalize hvx : ev n f x = vx at hx
    generalize e x = sx at h hx
    cases hx with
    | f hf =>
      cases hf with
      | sl T l a cap c h1 h2 h3 h4 => exact ⟨_, _, _, h (by omega), .f (.int _ _), fun w oo ho _ _ => runS el a _ cap hu hvx w oo ho⟩
      | nils => exact ⟨_, _, _, h, .f (.int _ _), fun w oo ho _ _ => runS el none 0 0 hu hvx w oo ho⟩
      | _ => exact h.elim
    | hnd o v hν h1 =>
      simp only [lenS] at h
      cases ho : ob o with
      | none => rw [ho] at h; exact h.elim
      | some a =>
        rw [ho] at h
        cases a with
        | vec ety T l =>
          obtain ⟨ad, cap, hv, hb⟩ := vec_lenv k hν ho rfl
          exact ⟨_, _, _, h (by omega), .f (.int _ _), fun w oo hoo _ _ => runS el ad _ cap hu (hvx.trans hv) w oo hoo⟩
        | frz T l =>
          obtain ⟨hR, _⟩ := k.o o _ ho
          obtain ⟨v', hν', _, hr⟩ := hR
          rw [hν] at hν'; cases hν'
          obtain ⟨ad, cap, hv, h1, h2, _⟩ := hr.toRSl hD
          exact ⟨_, _, _, h (by omega), .f (.int _ _), fun w oo hoo _ _ => runS el ad _ cap hu (hvx.trans hv) w oo hoo⟩
        | _ => exact h.elim
    | _ => exact h.elim
  · rename_i hu
    split at h
    · rename_i s hs
      exact ⟨_, _, _, h, .f (.int _ _), fun w oo ho _ _ => runT s hu (rep_str (hs ▸ hx)) w oo ho⟩
    · exact h.elim
  · exact h.elim
theorem p_min {args : Array Operand} {ts : Array TypeId} (k : Kn D ν σ n f w e ob lkc oh) (h : pureOp P D e ob lkc (.call ⟨.builtin .min, args, ts⟩) K) : PureOk P D ν σ ob oh (ev n f) (.call ⟨.builtin .min, args, ts⟩) K := by
  have hm : ∀ a b : Int, min a b = (if b < a then b else a) := by intro a b; omega
  simp only [pureOp] at h
  split at h
  · rename_i x y ha
    have ha' : args = #[x, y] := by apply Array.ext'; simpa using ha
    subst ha'
    split at h
    case h_2 => exact h.elim
    rename_i k1 a k2 b hx hy
    obtain ⟨hk, h⟩ := bif_f h
    exact ⟨_, _, _, h, .f (.int _ _), fun w oo ho _ _ => by simp [execOp, ho, rep_int (hx ▸ k.e x), rep_int (hy ▸ k.e y), resolve, invoke, builtin, Builtin.min_, Builtin.min2, hm]⟩
  · rename_i x y z ha
    have ha' : args = #[x, y, z] := by apply Array.ext'; simpa using ha
    subst ha'
    split at h
    case h_2 => exact h.elim
    rename_i k1 a k2 b k3 c hx hy hz
    obtain ⟨hk, h⟩ := bif_f h
    exact ⟨_, _, _, h, .f (.int _ _), fun w oo ho _ _ => by simp [execOp, ho, rep_int (hx ▸ k.e x), rep_int (hy ▸ k.e y), rep_int (hz ▸ k.e z), resolve, invoke, builtin, Builtin.min_, Builtin.min2, hm]⟩
  · exact h.elim
theorem p_max {args : Array Operand} {ts : Array TypeId} (k : Kn D ν σ n f w e ob lkc oh) (h : pureOp P D e ob lkc (.call ⟨.builtin .max, args, ts⟩) K) : PureOk P D ν σ ob oh (ev n f) (.call ⟨.builtin .max, args, ts⟩) K := by
  have hm : ∀ a b : Int, max a b = (if b > a then b else a) := by intro a b; omega
  simp only [pureOp] at h
  split at h
  · rename_i x y ha
    have ha' : args = #[x, y] := by apply Array.ext'; simpa using ha
    subst ha'
    split at h
    case h_2 => exact h.elim
    rename_i k1 a k2 b hx hy
    obtain ⟨hk, h⟩ := bif_f h
    exact ⟨_, _, _, h, .f (.int _ _), fun w oo ho _ _ => by simp [execOp, ho, rep_int (hx ▸ k.e x), rep_int (hy ▸ k.e y), resolve, invoke, builtin, Builtin.max_, Builtin.max2, hm]⟩
  · exact h.elim
/-- A bound of a slice expression. -/
theorem bnd_ok {lo : Option Operand} {z : Int} {i : Int} (k : Kn D ν σ n f w e ob lkc oh) (h : (match lo with | none => some z | some o => match e o with | .f (.int .i64 i) => some i | _ => none) = some i) :
    (lo = none ∧ i = z) ∨ ∃ o, lo = some o ∧ ev n f o = .int .i64 i := by
  cases lo with
  | none => cases h; exact .inl ⟨rfl, rfl⟩
  | some o =>
    simp only at h
    split at h
    · rename_i j hj
      cases h
      exact .inr ⟨o, rfl, rep_int (hj ▸ k.e o)⟩
    · cases h
theorem RSl.drop' {α : Type} {size : Nat} {R : Hv → List Value → α → Prop} {a : Option Addr} {len cap : Nat} {l : List α} (h : RSl size R σ (.slice a len cap) l) (k : Nat) (hk : k ≤ l.length) :
    RSl size R σ (.slice (if cap = k then a else a.map (·.add (k * size))) (len - k) (cap - k)) (l.drop k) := by
  obtain ⟨a', cap', h1, h2, h3, h4⟩ := h
  cases h1
  refine ⟨_, cap - k, by rw [List.length_drop], by rw [List.length_drop]; omega, by rw [List.length_drop]; omega, fun i x hx => ?_⟩
  rw [List.getElem?_drop] at hx
  obtain ⟨ad, cs, rfl, hl, hr, hR⟩ := h4 _ x hx
  have hlt := lt_of_getq hx
  rw [if_neg (by omega)]
  refine ⟨_, cs, rfl, hl, ?_, hR⟩
  rw [addr_add, ← Nat.add_mul]
  exact hr
theorem p_slice {t : TypeId} {x : Operand} {lo hi : Option Operand} (hD : D.Ok) (k : Kn D ν σ n f w e ob lkc oh) (h : pureOp P D e ob lkc (.slice t x lo hi none) K) : PureOk P D ν σ ob oh (ev n f) (.slice t x lo hi none) K := by
  simp only [pureOp] at h
  split at h
  · rename_i hu
    split at h
    case h_2 => exact h.elim
    rename_i s hx
    split at h
    case h_2 => exact h.elim
    rename_i l r hl hr
    obtain ⟨⟨h0, h1, h2⟩, h⟩ := h
    have hb : ∀ w, (Instr.sliceBounds false s.size s.size (lo.map (ev n f)) (hi.map (ev n f)) none).run P w = .ok (l.toNat, r.toNat, s.size) w := by
      intro w
      have e2 : 0 ≤ r := by omega
      have e3 : max r 0 = r := by omega
      rcases bnd_ok k hl with ⟨rfl, rfl⟩ | ⟨o, rfl, ho⟩ <;> rcases bnd_ok k hr with ⟨rfl, rfl⟩ | ⟨o', rfl, ho'⟩ <;> clear hl hr <;>
        simp_all [Instr.sliceBounds, Instr.sliceBound, asIntOf]
    exact ⟨_, _, _, h, .f (.str _), fun w oo ho _ _ => by
      simp [execOp, ho, rep_str (hx ▸ k.e x), Instr.sliceAt, run_underlying hu, Instr.slice, hb]⟩
  · rename_i el hu
    split at h
    case h_2 => exact h.elim
    rename_i T li hl
    obtain ⟨hc, h⟩ := bif_f h
    obtain ⟨hT, hsz⟩ := and_b hc
    have hsz := Nat.eq_of_beq_eq_true hsz
    split at h
    case h_2 => exact h.elim
    rename_i l r hlo hhi
    obtain ⟨⟨h0, h1, h2⟩, h⟩ := h
    have hrep := (lst_ok k hl).toRSl hD
    obtain ⟨a, cap, hv, hcap, _⟩ := id hrep
    rw [hv] at hrep
    have hb : ∀ w, (Instr.sliceBounds true li.length cap (lo.map (ev n f)) (hi.map (ev n f)) none).run P w = .ok (l.toNat, r.toNat, cap) w := by
      intro w
      have e1 : r ≤ (cap : Int) := by omega
      have e2 : 0 ≤ r := by omega
      have e3 : max r 0 = r := by omega
      clear hrep hv hl
      rcases bnd_ok k hlo with ⟨rfl, rfl⟩ | ⟨o, rfl, ho⟩ <;> rcases bnd_ok k hhi with ⟨rfl, rfl⟩ | ⟨o', rfl, ho'⟩ <;> clear hlo hhi <;>
        simp_all [Instr.sliceBounds, Instr.sliceBound, asIntOf]
    have h3 := RSl.drop' (RSl.take hrep r.toNat (by omega)) l.toNat (by simp only [List.length_take]; omega)
    refine ⟨_, _, _, h, .f (RepF.ofRSl hD h3), fun w oo ho _ _ => ?_⟩
    simp [execOp, ho, hv, Instr.sliceAt, run_underlying hu, Instr.slice, hb, run_szQ hT, hsz]
  · exact h.elim
theorem keyF_val {x : FV S} {v : Value} (h : RepF D σ v x) (hk : keyF x = true) : v = valF x := by
  cases h <;> first | rfl | cases hk
theorem row_val {cs : List Value} {ss : List (FV S)} (h : RowF D σ cs ss) (hk : ss.all keyF = true) : cs = ss.map valF := by
  apply List.ext_getElem?
  intro i
  rw [List.getElem?_map]
  rcases hq : ss[i]? with _ | x
  · have : ss.length ≤ i := List.getElem?_eq_none_iff.1 hq
    rw [List.getElem?_eq_none (by rw [h.1]; exact this)]; rfl
  · obtain ⟨v, hv⟩ := getq (l := cs) (k := i) (by rw [h.1]; exact lt_of_getq hq)
    rw [hv, keyF_val (h.2 i v x hv hq) ((List.all_eq_true.1 hk) x (List.mem_of_getElem? hq))]
    rfl
/-- The cells of a value that must be frozen first or are so. -/
theorem toF_ok {s : SV S} {v : Value} {x : FV S} {fz : List Nat} (hD : D.Ok) (ho : ∀ o a, ob o = some a → ORep D ν σ lkc o a (oh o)) (hs : SRep D ν σ v s) (h : toF ob s = some (x, fz)) :
    (fz = [] ∧ RepF D σ v x) ∨ ∃ o e T l, fz = [o] ∧ x = .sl T l ∧ ob o = some (.vec e T l) ∧ ν o = some v := by
  have _ := hD
  cases hs with
  | f hf => cases h; exact .inl ⟨rfl, hf⟩
  | lit b => cases h; exact .inl ⟨rfl, .bool b⟩
  | pb p d => cases h; exact .inl ⟨rfl, .bool _⟩
  | pbn p d => cases h; exact .inl ⟨rfl, .bool _⟩
  | hnd o v hν h1 =>
    simp only [toF] at h
    cases hq : ob o with
    | none => rw [hq] at h; cases h
    | some a =>
      rw [hq] at h
      cases a with
      | vec e T l => cases h; exact .inr ⟨o, e, T, l, rfl, rfl, hq, hν⟩
      | frz T l =>
        cases h
        obtain ⟨v', hν', _, hr⟩ := ho o _ hq
        rw [hν] at hν'; cases hν'
        exact .inl ⟨rfl, hr⟩
      | _ => cases h
  | _ => cases h
theorem toFs_nil {ss : List (SV S)} {cs : List Value} {xs : List (FV S)} (hD : D.Ok) (ho : ∀ o a, ob o = some a → ORep D ν σ lkc o a (oh o)) (hs : RowS D ν σ cs ss) (h : toFs ob ss = some (xs, [])) : RowF D σ cs xs := by
  induction ss generalizing cs xs with
  | nil => cases h; exact ⟨hs.1, fun j v s hj hk => by cases hk⟩
  | cons s ss ih =>
    cases cs with
    | nil => have := hs.1; cases this
    | cons c cs =>
      simp only [toFs] at h
      split at h
      case h_2 => cases h
      rename_i x a hx
      split at h
      case h_2 => cases h
      rename_i xs' b hxs
      injection h with h
      injection h with h0 hab
      subst h0
      obtain ⟨rfl, rfl⟩ : a = [] ∧ b = [] := by simpa using hab
      have h1 := toF_ok hD ho (hs.2.1 0 c s rfl rfl) hx
      have h2 := ih (cs := cs) ⟨by have := hs.1; simpa using this, fun j v s hj hk => hs.2.1 (j + 1) v s (by simpa using hj) (by simpa using hk), fun v hv => hs.2.2 v (by simp [hv])⟩ hxs
      rcases h1 with ⟨_, h1⟩ | ⟨_, _, _, _, h0, _⟩
      · refine ⟨by simp [h2.1], fun j v s hj hk => ?_⟩
        cases j with
        | zero => cases hj; cases hk; exact h1
        | succ j => exact h2.2 j v s (by simpa using hj) (by simpa using hk)
      · cases h0
theorem keyS_cells {s : SV S} {l : List (SV S)} (h : keyS s = some l) : cellsS s = some l := by
  unfold keyS at h
  split at h
  · exact h
  · cases h
  · exact h
theorem asV_cells {D : Shp S} {ν : Nm} {σ : Hv} {v : Value} {s : SV S} {l : List (SV S)} (hs : SRep D ν σ v s) (h : keyS s = some l) : v = asV v.cells.toList := by
  cases hs with
  | agg cs ss hl h' h1 =>
    match ss, h, hl with
    | a :: b :: ss, _, hl =>
      match cs, hl with
      | u :: u' :: cs, _ => rfl
  | f hf => rw [hf.cells]; rfl
  | tup => cases h
  | arr => cases h
  | dead => cases h
  | und => cases h
  | hnd o v hν h1 =>
    have : v.cells = #[v] := by cases v <;> first | rfl | cases h1
    rw [this]; rfl
  | _ => rfl
theorem withMap_ok {K V K' V' : S.C} {F : S.car K → Option (S.car V)} {k : (S.car K' → Option (S.car V')) → Prop} (h : withMap K V F K' V' k) : ∃ (e1 : K = K') (e2 : V = V'), k (e1 ▸ e2 ▸ F) := by
  unfold withMap at h
  split at h
  · exact ⟨_, _, h⟩
  · exact h.elim
theorem p_lookup {t : TypeId} {m x : Operand} {okk : Bool} (hP : D.OkP P) (k : Kn D ν σ n f w e ob lkc oh) (h : pureOp P D e ob lkc (.lookup t m x okk) K) : PureOk P D ν σ ob oh (ev n f) (.lookup t m x okk) K := by
  simp only [pureOp] at h
  split at h
  case h_2 => exact h.elim
  rename_i Kc V kt0 et0 o hmc hu hm
  obtain ⟨kt, et, hu', hK, hkey, hT, hA, hsz, z, hz, hzr⟩ := hP.map _ _ _ hmc
  rw [hu] at hu'; cases hu'
  split at h
  case h_2 => exact h.elim
  rename_i K' V' F ks ho hks
  obtain ⟨q, hq, h⟩ := optK_some h
  obtain ⟨hnil, h⟩ := bif_f h
  obtain ⟨ky, hky, h⟩ := optK_some h
  obtain ⟨e1, e2, h⟩ := withMap_ok h
  subst e1 e2
  obtain ⟨s, hs, hK2⟩ := optK_some h
  obtain ⟨xs, fz⟩ := q
  have hfz : fz = [] := by simpa using hnil
  subst hfz
  obtain ⟨hR, hok⟩ := k.o o _ ho
  obtain ⟨b, mm, hν, hh, hF⟩ := hR
  have hor : ∀ o a, ob o = some a → ORep D ν σ lkc o a (oh o) := fun o a h => (k.o o a h).1
  have hrow := toFs_nil hP.ok hor (cellsS_ok (k.e x) (keyS_cells hks)) hq
  have hrow2 := hP.ok.bld _ _ _ _ _ hky hrow
  have hval := row_val hrow2 (hkey ky)
  have hxv : ev n f x = kenc D K' ky := by
    unfold kenc
    rw [← hval]
    exact asV_cells (k.e x) hks
  have hmv : ev n f m = .map (some b) := rep_hnd (hm ▸ k.e m) hν
  have hel : ElV D σ V' ((mm ky).getD z) ((F ky).getD (D.zero V')) := ORel.getD (hF ky) (hzr σ)
  obtain ⟨cs, hcs, hv⟩ := hel
  obtain ⟨v, hv', hl, hp⟩ := sub_ok (D := D) (ν := ν) (hcs.toS) hs
  have hvv : v = (mm ky).getD z := by
    have h1 := hp w
    simp only [part, Sem.run_bind, run_aggQ hT, Result.andThen_ok, hA] at h1
    rw [hv]
    have hlen : cs.length = D.size V' := by rw [hcs.1, hP.ok.len]
    cases hb : Nat.beq (D.size V') 1 with
    | true =>
      have hb' := Nat.eq_of_beq_eq_true hb
      match cs, hlen.trans hb' with
      | [u], _ =>
        simp only [hb, Bool.not_true, Bool.false_eq_true, if_false] at h1
        simp at h1
        exact h1.symm
    | false =>
      have hb' : D.size V' ≠ 1 := fun he => by rw [he] at hb; cases hb
      simp only [hb, Bool.not_false, if_true, Sem.run_bind, run_szQ hT, hsz, Result.andThen_ok, Sem.run_pure] at h1
      have h2 : v = .agg (cs.toArray.extract 0 (0 + D.size V')) := by cases h1; rfl
      rw [h2, ← hlen]
      have h3 : cs.toArray.extract 0 (0 + cs.length) = cs.toArray := by simp
      rw [h3]
      match cs, hlen with
      | [], _ => rfl
      | [u], hl => exact absurd hl.symm hb'
      | u :: u' :: cs, _ => rfl
  have hor2 : (mm ky).isSome = (F ky).isSome := ORel.isSome (hF ky)
  cases okk with
  | true =>
    refine ⟨_, _, .tuple #[v, .bool (F ky).isSome], hK2, .tup [v, .bool (F ky).isSome] _ rfl (fun j u s' hj hs' => ?_), fun w oo hoo _ hrd => ?_⟩
    · match j with
      | 0 => cases hj; cases hs'; exact hv'
      | 1 => cases hj; cases hs'; exact .f (.bool _)
      | j + 2 => cases hj
    · have hokw := hrd o (by simp) _ ho
      rw [hh] at hokw
      simp [execOp, hoo, hmv, hxv, run_lookK hK hu hz hokw true, hvv, hor2]
  | false =>
    refine ⟨_, _, v, hK2, hv', fun w oo hoo _ hrd => ?_⟩
    have hokw := hrd o (by simp) _ ho
    rw [hh] at hokw
    simp [execOp, hoo, hmv, hxv, run_lookK hK hu hz hokw false, hvv]
theorem svOf_ok {cs : List Value} {l : List (FV S)} (h : RowF D σ cs l) : SRep D ν σ (asV cs) (svOf l) := by
  match l, cs, h with
  | [x], [c], h => exact .f (h.2 0 c x rfl rfl)
  | [], [], h => exact .agg [] [] rfl (fun j v s hj => by cases hj) (by simp)
  | x :: y :: l, c :: d :: cs, h =>
    have := h.toS (ν := ν)
    exact .agg _ _ this.1 this.2.1 this.2.2
  | [], _ :: _, h => have := h.1; simp at this
  | [_], [], h => have := h.1; simp at this
  | [_], _ :: _ :: _, h => have := h.1; simp at this
  | _ :: _ :: _, [], h => have := h.1; simp at this
  | _ :: _ :: _, [_], h => have := h.1; simp at this
theorem key_row {l : List (FV S)} (h : l.all keyF = true) : RowF D σ (l.map valF) l := by
  refine ⟨by simp, fun j v s hj hs => ?_⟩
  rw [List.getElem?_map, hs] at hj
  cases hj
  have := List.all_eq_true.1 h s (List.mem_of_getElem? hs)
  cases s <;> simp [keyF] at this <;> constructor
theorem p_entry {x : Operand} (k : Kn D ν σ n f w e ob lkc oh) (h : pureOp P D e ob lkc (.entry x) K) : PureOk P D ν σ ob oh (ev n f) (.entry x) K := by
  simp only [pureOp] at h
  split at h
  case h_2 => exact h.elim
  rename_i o hx
  split at h
  case h_2 => exact h.elim
  rename_i Kc V F done ky y ho
  obtain ⟨hR, hok⟩ := k.o o _ ho
  obtain ⟨r, b, es, clock, cv, hν, hh, hb, hK, hM, hF, hkey, hinj, hcur⟩ := hR
  obtain ⟨v, hcv, cs, hcs, hv⟩ := hcur ky y rfl
  have hxv : ev n f x = .pointer (some ⟨r, 0, none⟩) := by
    have hx' := k.e x
    rw [hx] at hx'
    generalize ev n f x = u at hx'
    cases hx' with
    | ref _ _ b' h' => rw [hν] at h'; cases h'; rfl
  refine ⟨_, _, .tuple #[kenc D Kc ky, v], h, .tup [kenc D Kc ky, v] _ rfl (fun j u s' hj hs' => ?_), fun w oo hoo hV hrd => ?_⟩
  · match j with
    | 0 => cases hj; cases hs'; exact svOf_ok (key_row (hkey ky))
    | 1 => cases hj; cases hs'; rw [hv]; exact svOf_ok hcs
    | j + 2 => cases hj
  · have hokw := hrd o (by simp) _ ho
    rw [hh] at hokw
    obtain ⟨seen, k1, k2, k3⟩ := hokw
    obtain ⟨s0, e', rfl, he, hk, hv'⟩ := k3 _ hcv
    have := run_entry_at (P := P) w r b clock s0 es clock e' k1 (hV _ _ hb) he hM.2.1
    rw [hk, hv'] at this
    simp only [execOp, hoo, hxv, Sem.run_bind, this, Result.andThen_ok]
    rfl
theorem pure_ok {o : Op} (hP : D.OkP P) (k : Kn D ν σ n f w e ob lkc oh) (h : pureOp P D e ob lkc o K) : PureOk P D ν σ ob oh (ev n f) o K := by
  have hD := hP.ok
  unfold pureOp at h
  split at h
  · exact ⟨_, _, _, h, k.e _, fun w oo ho _ _ => by simp [execOp, ho]⟩
  · exact ⟨_, _, _, h, k.e _, fun w oo ho _ _ => by simp [execOp, ho]⟩
  · exact p_pick k h
  · exact p_load k h
  · exact p_fieldAddr k h
  · exact p_nilCheck k h
  · exact p_indexAddr hD k h
  · exact p_field k h
  · exact p_index hD k h
  · exact p_extract k h
  · exact p_makeFunc k h
  · exact p_binOp hD k h
  · exact p_not k h
  · exact p_neg k h
  · exact p_convert k h
  · exact p_build k h
  · exact p_slice hD k h
  · exact p_len hD k h
  · exact p_min k h
  · exact p_max k h
  · exact p_lookup hP k h
  · exact p_entry k h
  · exact h.elim
end Go.Fx
end
section
namespace Go.Fx
open Go Go.RowKit Go.Fl Go.Fl.Lk
variable {S : Sig} {P : Program} {D : Shp S} {ν ν' : Nm} {σ τ : Hv} {n : Nat} {f : Fr}
variable {w : World} {e : Operand → SV S} {ob : Nat → Option (AO S)} {lkc : Nat → Nat → SV S} {oh : Nat → HObj} {c : Cx}
def Objs (D : Shp S) (ν : Nm) (σ : Hv) (lkc : Nat → Nat → SV S) : List (Nat × AO S) → List HObj → Prop
  | [], [] => True
  | (o, a) :: os, h :: hs => ORep D ν σ lkc o a h ∧ Objs D ν σ lkc os hs
  | _, _ => False
theorem ORep.mono {o : Nat} {a : AO S} {h : HObj} (hr : ORep D ν σ lkc o a h) (hn : Ext ν ν') (hs : Sub σ τ) : ORep D ν' τ lkc o a h := by
  cases a with
  | cells ty l => obtain ⟨b, cs, h1, h2, h3⟩ := hr; exact ⟨b, cs, hn _ _ h1, h2, h3.mono hn hs⟩
  | vec ety T l => obtain ⟨v, xs, h1, h2, h3, h4⟩ := hr; exact ⟨v, xs, hn _ _ h1, h2, h3.mono hs, h4⟩
  | frz T l => obtain ⟨v, h1, h2, h3⟩ := hr; exact ⟨v, hn _ _ h1, h2, h3.mono hs⟩
  | arr ty T N l => obtain ⟨b, cs, h1, h2, h3, h4⟩ := hr; exact ⟨b, cs, hn _ _ h1, h2, h3.mono hs, h4⟩
  | map K V F => obtain ⟨b, m, h1, h2, h3⟩ := hr; exact ⟨b, m, hn _ _ h1, h2, fun k => (h3 k).imp fun v y h => h.mono hs⟩
  | iter K V F done cur =>
    obtain ⟨r, b, es, clock, cv, h1, h2, h3, h4, h5, h6, h7, h8, h9⟩ := hr
    exact ⟨r, b, es, clock, cv, hn _ _ h1, h2, hs _ _ h3, h4, h5, fun k => (h6 k).imp fun v y h => h.mono hs, h7, h8, fun k y hk => (h9 k y hk).imp fun v h => ⟨h.1, h.2.mono hs⟩⟩
  | siter s pos => obtain ⟨r, h1, h2⟩ := hr; exact ⟨r, hn _ _ h1, h2⟩
theorem Objs.mono : ∀ {os : List (Nat × AO S)} {ms : List HObj}, Objs D ν σ lkc os ms → Ext ν ν' → Sub σ τ → Objs D ν' τ lkc os ms
  | [], [], _, _, _ => trivial
  | (_, _) :: _, _ :: _, h, hn, hs => ⟨h.1.mono hn hs, Objs.mono h.2 hn hs⟩
theorem Objs.append : ∀ {os os' : List (Nat × AO S)} {ms ms' : List HObj}, Objs D ν σ lkc os ms → Objs D ν σ lkc os' ms' → Objs D ν σ lkc (os ++ os') (ms ++ ms')
  | [], _, [], _, _, h => h
  | (_, _) :: _, _, _ :: _, _, h, h' => ⟨h.1, Objs.append h.2 h'⟩
theorem Objs.split : ∀ {os os' : List (Nat × AO S)} {ms : List HObj}, Objs D ν σ lkc (os ++ os') ms → ∃ m1 m2, ms = m1 ++ m2 ∧ Objs D ν σ lkc os m1 ∧ Objs D ν σ lkc os' m2
  | [], _, ms, h => ⟨[], ms, rfl, trivial, h⟩
  | (o, a) :: os, os', m :: ms, h => by
    obtain ⟨m1, m2, rfl, h1, h2⟩ := Objs.split (os := os) h.2
    exact ⟨m :: m1, m2, rfl, ⟨h.1, h1⟩, h2⟩
theorem findN_mem {α : Type} {os : List (Nat × α)} {o : Nat} {a : α} (h : findN os o = some a) : (o, a) ∈ os := by
  induction os with
  | nil => cases h
  | cons q os ih =>
    obtain ⟨o', a'⟩ := q
    simp only [findN] at h
    cases hb : Nat.beq o' o with
    | true => rw [hb] at h; cases h; rw [Nat.eq_of_beq_eq_true hb]; simp
    | false => rw [hb] at h; exact List.mem_cons_of_mem _ (ih h)
/-- One object is taken out. -/
theorem Objs.take {os : List (Nat × AO S)} {ms : List HObj} {o : Nat} {a : AO S} (h : Objs D ν σ lkc os ms) (hf : findN os o = some a) :
    ∃ m ms', ms.Perm (m :: ms') ∧ ORep D ν σ lkc o a m ∧ Objs D ν σ lkc (delN os o) ms' := by
  induction os generalizing ms with
  | nil => cases hf
  | cons q os ih =>
    obtain ⟨o', a'⟩ := q
    cases ms with
    | nil => exact h.elim
    | cons m ms =>
      simp only [findN] at hf
      simp only [delN]
      cases hb : Nat.beq o' o with
      | true =>
        rw [hb] at hf; cases hf
        have := Nat.eq_of_beq_eq_true hb
        subst this
        exact ⟨m, ms, .refl _, h.1, by simpa using h.2⟩
      | false =>
        rw [hb] at hf
        obtain ⟨m', ms', hp, hr, ho⟩ := ih h.2 hf
        exact ⟨m', m :: ms', (hp.cons m).trans (.swap _ _ _), hr, ⟨h.1, ho⟩⟩
theorem resL_id {g : Nat → SV S} : ∀ {l : List (SV S)} {i : Nat} {cs : List Value}, RowS D ν σ cs l → resL g i l = l := by
  intro l
  induction l with
  | nil => intro i cs _; rfl
  | cons s l ih =>
    intro i cs h
    cases cs with
    | nil => have := h.1; cases this
    | cons c cs =>
      have h1 := h.2.1 0 c s rfl rfl
      have h2 : RowS D ν σ cs l := ⟨by have := h.1; simpa using this, fun j v s hj hk => h.2.1 (j + 1) v s (by simpa using hj) (by simpa using hk), fun v hv => h.2.2 v (by simp [hv])⟩
      cases h1 <;> simp only [resL] <;> rw [ih h2]
def RepR (D : Shp S) (ν : Nm) (σ : Hv) (r : Next) : Option (SV S) → Prop
  | some s => ∃ v, r = .value v ∧ SRep D ν σ v s
  | none => r = .skip
def EffOk (P : Program) (D : Shp S) (ν : Nm) (σ : Hv) (w : World) (ob : Nat → Option (AO S)) (lkc : Nat → Nat → SV S) (nx : Nat) (r : Operand → Value) (o : Op) (K : List Nat → List (Nat × AO S) → Option (SV S) → Prop) : Prop :=
  ∃ tl outs sv tlo, K tl outs sv ∧ tlo.map (·.1) = tl ∧ tl.Nodup ∧ (∀ q ∈ tlo, ob q.1 = some q.2) ∧ ∀ ins, Objs D ν σ lkc tlo ins → St ⟨w, σ, feet ins⟩ w σ ins → ∀ oo : Oper, oo.op = o →
    ∃ w' σ' ν' ms' x, (execOp r oo).run P w = .ok x w' ∧ Ext ν ν' ∧ (∀ m u, ν' m = some u → ν m = some u ∨ m = nx) ∧ St ⟨w, σ, feet ins⟩ w' σ' ms' ∧ Objs D ν' σ' lkc outs ms' ∧ RepR D ν' σ' x sv
variable {nx : Nat} {K : List Nat → List (Nat × AO S) → Option (SV S) → Prop}
/-- A new name. -/
def Nm.add (ν : Nm) (o : Nat) (v : Value) : Nm := fun m => if m = o then some v else ν m
theorem Nm.add_ext {o : Nat} {v : Value} (h : ν o = none) : Ext ν (ν.add o v) := by
  intro m u hu
  unfold Nm.add
  rw [if_neg]
  · exact hu
  · rintro rfl; rw [h] at hu; cases hu
theorem Nm.add_new {o : Nat} {v : Value} : ∀ m u, ν.add o v m = some u → ν m = some u ∨ m = o := by
  intro m u hu
  unfold Nm.add at hu
  split at hu
  · rename_i h; exact .inr h
  · exact .inl hu
theorem Nm.add_self {o : Nat} {v : Value} : ν.add o v o = some v := by unfold Nm.add; rw [if_pos rfl]
/-- A new block. -/
theorem new_block {ins : List HObj} (hS : St c w σ ins) (t : TypeId) (cs : Array Value) : St c (w.alloc (.cells cs t)) σ (blk w.heap.size t cs.toList :: ins) :=
  hS.add (alloc_keeps w _) (by show (w.alloc _).heap[w.heap.size]? = _; rw [heap_alloc_new, Array.toArray_toList]) (by rintro k ⟨⟩; exact Nat.le_refl _)
theorem e_alloc {t : TypeId} (hP : D.OkP P) (hnx : ν nx = none) (h : effOp P D e ob nx (.alloc t) K) : EffOk P D ν σ w ob lkc nx (ev n f) (.alloc t) K := by
  simp only [effOp] at h
  split at h
  · rename_i T N ha
    obtain ⟨cs, hz, hE⟩ := hP.arr _ _ _ ha
    refine ⟨_, _, _, [], h, rfl, List.nodup_nil, by simp, fun ins ho hS oo hoo => ?_⟩
    cases ins with
    | cons => exact ho.elim
    | nil =>
      refine ⟨_, σ, ν.add nx (.pointer (some ⟨w.heap.size, 0, none⟩)), _, .value (.pointer (some ⟨w.heap.size, 0, none⟩)), by simp [execOp, hoo, Instr.alloc, hz, newVar, newRow, newObj, Sem.run]; rfl, Nm.add_ext hnx, Nm.add_new,
        new_block hS t _, ⟨⟨_, _, Nm.add_self, rfl, hE σ, by simp⟩, trivial⟩, ⟨_, rfl, .ref nx 0 _ Nm.add_self⟩⟩
  · split at h
    case h_2 => exact h.elim
    rename_i z hz
    obtain ⟨hz1, h⟩ := bif_f h
    have hzr : ∀ w, (zeroValue t).run P w = .ok z w := by
      intro w
      obtain ⟨i, hi, hz⟩ := Option.bind_eq_some_iff.1 hz
      simp [zeroValue, typeInfo, hi, hz]
    refine ⟨_, _, _, [], h, rfl, List.nodup_nil, by simp, fun ins ho hS oo hoo => ?_⟩
    cases ins with
    | cons => exact ho.elim
    | nil =>
      have hr := zero_row (D := D) (ν := ν.add nx (.pointer (some ⟨w.heap.size, 0, none⟩))) (σ := σ) hz1
      refine ⟨_, σ, ν.add nx (.pointer (some ⟨w.heap.size, 0, none⟩)), _, .value (.pointer (some ⟨w.heap.size, 0, none⟩)), by simp [execOp, hoo, Instr.alloc, hzr, newVar, newRow, newObj, Sem.run]; rfl, Nm.add_ext hnx, Nm.add_new,
        new_block hS t _, ⟨⟨_, _, Nm.add_self, rfl, ?_⟩, trivial⟩, ⟨_, rfl, .ref nx 0 _ Nm.add_self⟩⟩
      rw [resL_id hr]; exact hr
theorem e_box {t : TypeId} {x : Operand} (hnx : ν nx = none) (k : Kn D ν σ n f w e ob lkc oh) (h : effOp P D e ob nx (.box t x) K) : EffOk P D ν σ w ob lkc nx (ev n f) (.box t x) K := by
  have hx := k.e x
  have run : ∀ oo : Oper, oo.op = .box t x → (execOp (ev n f) oo).run P w = .ok (.value (.pointer (some ⟨w.heap.size, 0, none⟩))) (w.alloc (.cells (ev n f x).cells t)) := by
    intro oo hoo
    simp [execOp, hoo, Instr.box, newVar, newRow, newObj, Sem.run]
  simp only [effOp] at h
  split at h
  · rename_i T N l hxe
    refine ⟨_, _, _, [], h, rfl, List.nodup_nil, by simp, fun ins ho hS oo hoo => ?_⟩
    cases ins with
    | cons => exact ho.elim
    | nil =>
      refine ⟨_, σ, ν.add nx (.pointer (some ⟨w.heap.size, 0, none⟩)), _, _, run oo hoo, Nm.add_ext hnx, Nm.add_new, new_block hS t _, ⟨⟨_, _, Nm.add_self, rfl, ?_⟩, trivial⟩, ⟨_, rfl, .ref nx 0 _ Nm.add_self⟩⟩
      rw [hxe] at hx
      generalize ev n f x = v at hx
      cases hx with
      | arr cs _ _ _ hN hl hr => exact ⟨⟨hl, hr⟩, hN⟩
  · obtain ⟨l, hl, h⟩ := optK_some h
    refine ⟨_, _, _, [], h, rfl, List.nodup_nil, by simp, fun ins ho hS oo hoo => ?_⟩
    cases ins with
    | cons => exact ho.elim
    | nil =>
      refine ⟨_, σ, ν.add nx (.pointer (some ⟨w.heap.size, 0, none⟩)), _, _, run oo hoo, Nm.add_ext hnx, Nm.add_new, new_block hS t _, ⟨⟨_, _, Nm.add_self, rfl, ?_⟩, trivial⟩, ⟨_, rfl, .ref nx 0 _ Nm.add_self⟩⟩
      have hr := (cellsS_ok hx hl).mono (Nm.add_ext (v := .pointer (some ⟨w.heap.size, 0, none⟩)) hnx) (Sub.refl σ)
      rw [resL_id hr]; exact hr
/-! Lists are frozen. -/
theorem st_triv {ms : List HObj} (h : St c w σ ms) : St c w σ (triv :: ms) := h.add (.refl _ _) trivial (by intro k hk; cases hk)
theorem freeze_one {ms : List HObj} {ety : TypeId} {T : S.C} {v : Value} {xs : List Value} {l : List (S.car T)} (hD : D.Ok) (h : St c w σ (vec v ety (D.size T) l.length xs :: ms)) (hE : Els D σ T xs l) (hl : l.length ≤ 140737488355328) :
    ∃ σ1, St c w σ1 (triv :: ms) ∧ Sub σ σ1 ∧ RepF D σ1 v (.sl T l) := by
  obtain ⟨σ1, h1, h2, h3⟩ := h.freeze' (i := 0) rfl rfl
  refine ⟨σ1, st_triv h1, h2, RepF.ofRSl hD (RSl.ofVec (h.get (i := 0) rfl) h3 rfl hl fun i x hx => ⟨?_, (hE.2 i x hx).mono h2⟩)⟩
  rw [(hE.2 i x hx).1, hD.len]
theorem freeze_all (hD : D.Ok) : ∀ {fz : List Nat} {outs tlo : List (Nat × AO S)} {ms ins : List HObj}, frzs ob fz = some outs → tlo.map (·.1) = fz → (∀ q ∈ tlo, ob q.1 = some q.2) → Objs D ν σ lkc tlo ins → St c w σ (ms ++ ins) →
    ∃ σ1 ms1, St c w σ1 (ms ++ ms1) ∧ Sub σ σ1 ∧ Objs D ν σ1 lkc outs ms1 := by
  intro fz
  induction fz generalizing σ with
  | nil =>
    intro outs tlo ms ins hf ht _ ho hS
    cases hf
    cases tlo with
    | cons => cases ht
    | nil =>
      cases ins with
      | cons => exact ho.elim
      | nil => exact ⟨σ, [], hS, Sub.refl _, trivial⟩
  | cons o fz ih =>
    intro outs tlo ms ins hf ht hq ho hS
    cases tlo with
    | nil => cases ht
    | cons q tlo =>
      obtain ⟨o', a⟩ := q
      injection ht with h1 h2
      simp only at h1
      subst h1
      cases ins with
      | nil => exact ho.elim
      | cons m ins =>
        simp only [frzs] at hf
        cases hb : hasN fz o' with
        | true => rw [hb] at hf; cases hf
        | false =>
          rw [hb] at hf
          simp only [cond_false] at hf
          split at hf
          case h_2 => cases hf
          rename_i ety T l r hob hr
          cases hf
          have ha := hq (o', a) (by simp)
          simp only at ha
          rw [hob] at ha; cases ha
          obtain ⟨v, xs, hν, hm, hE, hl⟩ := ho.1
          subst hm
          have hS1 := hS.perm (ms' := vec v ety (D.size T) l.length xs :: (ms ++ ins)) List.perm_middle
          obtain ⟨σ1, hS2, hs1, hrep⟩ := freeze_one hD hS1 hE hl
          have hS3 := hS2.perm (ms' := (ms ++ [triv]) ++ ins) (by simpa using (List.perm_middle (a := triv) (l₁ := ms) (l₂ := ins)).symm)
          obtain ⟨σ2, ms1, hS4, hs2, ho2⟩ := ih hr h2 (fun q hq' => hq q (by simp [hq'])) (ho.2.mono (Ext.refl ν) hs1) hS3
          exact ⟨σ2, triv :: ms1, by simpa using hS4, hs1.trans hs2, ⟨v, hν, rfl, hrep.mono hs2⟩, ho2⟩
/-! Stores. -/
theorem run_store {t : TypeId} {b o T k : Nat} {v : Value} {cs vs : List Value} {r : Operand → Value} {a x : Operand} {oo : Oper} (ho : oo.op = .store t a x) (ha : r a = .pointer (some ⟨b, o, none⟩)) (hx : r x = v) (hvs : v.cells.toList = vs)
    (hs : ∀ w, (sizeOf t).run P w = .ok k w) (hl : vs.length = k) (h1 : ∀ u ∈ vs, u.oneCell' = true) (hb : w.heap[b]? = some (.cells cs.toArray T (0, 0))) (hle : o + k ≤ cs.length) :
    (execOp r oo).run P w = .ok .skip (w.setRow b (splice cs o vs).toArray) := by
  have hr := run_storeCells_at P b o T vs 0 cs.toArray w hb (by simpa [hl] using hle) h1
  have hsz : v.cells.size = k := by rw [← Array.length_toList, hvs, hl]
  simp only [Nat.add_zero] at hr
  have h2 : (storeVar t ⟨b, o, none⟩ v).run P w = .ok () (w.setRow b (splice cs o vs).toArray) := by
    simp only [storeVar, Sem.run_bind, hs, Result.andThen_ok, hsz, hvs]
    simpa [splice] using hr
  simp [execOp, ho, ha, hx, Instr.storeAt, Instr.sureAddr, h2]
theorem run_storeV {t : TypeId} {g cap T size k o j : Nat} {v : Value} {xs vs : List Value} {r : Operand → Value} {a x : Operand} {oo : Oper} (hoo : oo.op = .store t a x) (ha : r a = .pointer (some ⟨g, o, none⟩)) (hx : r x = v) (hvs : v.cells.toList = vs)
    (hs : ∀ w, (sizeOf t).run P w = .ok j w) (hl : vs.length = j) (h1 : ∀ u ∈ vs, u.oneCell' = true) (hv : (vec (.slice (some ⟨g, 0, none⟩) k cap) T size k xs).ok w) (ho : o + j ≤ k * size) :
    ∃ w', (execOp r oo).run P w = .ok .skip w' ∧ Keeps [g] w w' ∧ (vec (.slice (some ⟨g, 0, none⟩) k cap) T size k (splice xs o vs)).ok w' := by
  obtain ⟨hlen, hor⟩ := hv
  rcases hor with ⟨hbad, _⟩ | ⟨g', cap', cur, heq, _, hb, hk, hm, hcur, htake⟩
  · cases hbad
  · obtain ⟨rfl, rfl⟩ : g = g' ∧ cap = cap' := by simpa using heq
    have hle : k * size ≤ cap * size := Nat.mul_le_mul_right _ hk
    have hb' : w.heap[g]? = some (.cells cur.toList.toArray T (0, 0)) := by rw [Array.toArray_toList]; exact hb
    refine ⟨_, run_store (P := P) hoo ha hx hvs hs hl h1 hb' (by rw [Array.length_toList, hcur]; omega), setRow_keeps hb _, ?_, .inr ⟨g, cap, _, rfl, Nat.zero_le _, setRow_heap w g cur _ T _ hb, hk, hm, ?_, ?_⟩⟩
    · unfold splice; simp only [List.length_append, List.length_take, List.length_drop]; omega
    · unfold splice; simp only [List.size_toArray, List.length_append, List.length_take, List.length_drop, Array.length_toList]; omega
    · exact splice_take htake (by omega) (by simp; omega)
theorem rowF_splice {cs vs : List Value} {l ss : List (FV S)} {off : Nat} (h : RowF D σ cs l) (k : RowF D σ vs ss) (hle : off + ss.length ≤ l.length) :
    RowF D σ (cs.take off ++ vs ++ cs.drop (off + vs.length)) (l.take off ++ ss ++ l.drop (off + ss.length)) := by
  have e1 := h.1
  have e2 := k.1
  refine ⟨by simp only [List.length_append, List.length_take, List.length_drop]; omega, fun j v s hj hs => ?_⟩
  have t1 : (cs.take off).length = off := by rw [List.length_take]; omega
  have t2 : (l.take off).length = off := by rw [List.length_take]; omega
  rw [List.append_assoc] at hj hs
  rcases Nat.lt_or_ge j off with hlt | hge
  · rw [List.getElem?_append_left (by omega)] at hj hs
    rw [List.getElem?_take_of_lt hlt] at hj hs
    exact h.2 j v s hj hs
  · rw [List.getElem?_append_right (by omega)] at hj hs
    rw [t1] at hj; rw [t2] at hs
    rcases Nat.lt_or_ge (j - off) ss.length with hlt | hge'
    · rw [List.getElem?_append_left (by omega)] at hj hs
      exact k.2 _ v s hj hs
    · rw [List.getElem?_append_right (by omega)] at hj hs
      rw [List.getElem?_drop] at hj hs
      have e3 : off + vs.length + (j - off - vs.length) = off + ss.length + (j - off - ss.length) := by omega
      rw [e3] at hj
      exact h.2 _ v s hj hs
theorem noLk_sub {g : Nat → SV S} : ∀ {l : List (SV S)} {i : Nat}, (resL g i l).length = l.length
  | [], _ => rfl
  | s :: l, i => by cases s <;> simp [resL, noLk_sub]
theorem resL_drop {g : Nat → SV S} : ∀ {l : List (SV S)} {i k : Nat}, (resL g i l).drop k = resL g (i + k) (l.drop k)
  | [], _, _ => by simp [resL]
  | s :: l, i, 0 => by simp
  | s :: l, i, k + 1 => by
    have : (resL g i (s :: l)).drop (k + 1) = (resL g (i + 1) l).drop k := by cases s <;> simp [resL]
    rw [this, resL_drop, List.drop_succ_cons, Nat.add_assoc, Nat.add_comm 1 k]
theorem resL_take {g : Nat → SV S} : ∀ {l : List (SV S)} {i k : Nat}, (resL g i l).take k = resL g i (l.take k)
  | [], _, _ => by simp [resL]
  | s :: l, i, 0 => by simp [resL]
  | s :: l, i, k + 1 => by cases s <;> simp [resL, resL_take]
theorem resL_append {g : Nat → SV S} : ∀ {l l' : List (SV S)} {i : Nat}, resL g i (l ++ l') = resL g i l ++ resL g (i + l.length) l'
  | [], _, _ => by simp [resL]
  | s :: l, l', i => by
    have e1 : i + (s :: l).length = i + 1 + l.length := by simp; omega
    rw [e1]
    cases s <;> simp [resL, resL_append]
theorem splice_els {T : S.C} {xs vs : List Value} {l : List (S.car T)} {i off : Nat} {y y' : S.car T} (hE : Els D σ T xs l) (hy : l[i]? = some y) (hle : off + vs.length ≤ D.size T)
    (hr : ∀ cs, RowF D σ cs (D.shape T y) → RowF D σ (cs.take off ++ vs ++ cs.drop (off + vs.length)) (D.shape T y')) : Els D σ T (splice xs (i * D.size T + off) vs) (l.set i y') := by
  have hi := lt_of_getq hy
  have h1 : (i + 1) * D.size T ≤ l.length * D.size T := Nat.mul_le_mul_right _ hi
  rw [Nat.add_mul, Nat.one_mul] at h1
  have hl := hE.1
  refine ⟨by unfold splice; simp only [List.length_append, List.length_take, List.length_drop, List.length_set]; omega, fun j x hx => ?_⟩
  rw [List.getElem?_set] at hx
  have part : ∀ m, (splice xs (i * D.size T + off) vs)[m]? = if m < i * D.size T + off then xs[m]? else if m < i * D.size T + off + vs.length then vs[m - (i * D.size T + off)]? else xs[m]? := by
    intro m
    unfold splice
    have t1 : (xs.take (i * D.size T + off)).length = i * D.size T + off := by rw [List.length_take]; omega
    rw [List.append_assoc]
    split
    · rename_i h
      rw [List.getElem?_append_left (by omega), List.getElem?_take_of_lt h]
    · rename_i h
      rw [List.getElem?_append_right (by omega), t1]
      split
      · rename_i h2
        rw [List.getElem?_append_left (by omega)]
      · rename_i h2
        rw [List.getElem?_append_right (by omega), List.getElem?_drop]
        congr 1; omega
  by_cases hij : i = j
  · subst hij
    rw [if_pos rfl, if_pos hi] at hx
    cases hx
    have := hr _ (hE.2 i y hy)
    have e : ((splice xs (i * D.size T + off) vs).drop (i * D.size T)).take (D.size T) = ((xs.drop (i * D.size T)).take (D.size T)).take off ++ vs ++ ((xs.drop (i * D.size T)).take (D.size T)).drop (off + vs.length) := by
      apply List.ext_getElem?
      intro m
      rw [List.getElem?_take]
      have c1 : (((xs.drop (i * D.size T)).take (D.size T)).take off).length = off := by simp only [List.length_take, List.length_drop]; omega
      rw [List.append_assoc]
      by_cases hm : m < D.size T
      · rw [if_pos hm, List.getElem?_drop, part]
        by_cases h2 : m < off
        · rw [if_pos (by omega), List.getElem?_append_left (by omega), List.getElem?_take_of_lt h2, List.getElem?_take_of_lt hm, List.getElem?_drop]
        · rw [if_neg (by omega), List.getElem?_append_right (by omega), c1]
          by_cases h3 : m < off + vs.length
          · rw [if_pos (by omega), List.getElem?_append_left (by omega)]
            congr 1; omega
          · rw [if_neg (by omega), List.getElem?_append_right (by omega), List.getElem?_drop, List.getElem?_take_of_lt (by omega), List.getElem?_drop]
            congr 1; omega
      · rw [if_neg hm]
        symm
        apply List.getElem?_eq_none
        simp only [List.length_append, List.length_take, List.length_drop]
        omega
    rw [e]; exact this
  · rw [if_neg hij] at hx
    have hj := lt_of_getq hx
    have e : ((splice xs (i * D.size T + off) vs).drop (j * D.size T)).take (D.size T) = (xs.drop (j * D.size T)).take (D.size T) := by
      apply List.ext_getElem?
      intro m
      rw [List.getElem?_take, List.getElem?_take]
      split
      · rename_i hm
        rw [List.getElem?_drop, List.getElem?_drop, part]
        rcases Nat.lt_or_gt_of_ne hij with h | h
        · have h3 : (i + 1) * D.size T ≤ j * D.size T := Nat.mul_le_mul_right _ h
          rw [Nat.add_mul, Nat.one_mul] at h3
          rw [if_neg (by omega), if_neg (by omega)]
        · have h3 : (j + 1) * D.size T ≤ i * D.size T := Nat.mul_le_mul_right _ h
          rw [Nat.add_mul, Nat.one_mul] at h3
          rw [if_pos (by omega)]
      · rfl
    rw [e]; exact hE.2 j x hx
theorem toFs_len {ss : List (SV S)} {xs : List (FV S)} {fz : List Nat} (h : toFs ob ss = some (xs, fz)) : xs.length = ss.length := by
  induction ss generalizing xs fz with
  | nil => cases h; rfl
  | cons s ss ih =>
    simp only [toFs] at h
    split at h
    case h_2 => cases h
    split at h
    case h_2 => cases h
    rename_i h2
    cases h
    simp [ih h2]
/-- The cells of a value, once what must be frozen is so. -/
theorem toFs_ok {ss : List (SV S)} {cs : List Value} {xs : List (FV S)} {fz : List Nat} (hD : D.Ok) (ho : ∀ o a, ob o = some a → ORep D ν σ lkc o a (oh o)) (hs' : Sub σ τ) (hs : RowS D ν σ cs ss) (h : toFs ob ss = some (xs, fz))
    (hf : ∀ o e T l v, o ∈ fz → ob o = some (.vec e T l) → ν o = some v → RepF D τ v (.sl T l)) : RowF D τ cs xs := by
  induction ss generalizing cs xs fz with
  | nil => cases h; exact ⟨hs.1, fun j v s hj hk => by cases hk⟩
  | cons s ss ih =>
    cases cs with
    | nil => have := hs.1; cases this
    | cons c cs =>
      simp only [toFs] at h
      split at h
      case h_2 => cases h
      rename_i x a hx
      split at h
      case h_2 => cases h
      rename_i xs' b hxs
      cases h
      have h1 := toF_ok hD ho (hs.2.1 0 c s rfl rfl) hx
      have h2 := ih (cs := cs) ⟨by have := hs.1; simpa using this, fun j v s hj hk => hs.2.1 (j + 1) v s (by simpa using hj) (by simpa using hk), fun v hv => hs.2.2 v (by simp [hv])⟩ hxs (fun o e T l v hm => hf o e T l v (by simp [hm]))
      refine ⟨by simp [h2.1], fun j v s hj hk => ?_⟩
      cases j with
      | zero =>
        cases hj; cases hk
        rcases h1 with ⟨_, h1⟩ | ⟨o, e, T, l, h0, hx', hob, hν⟩
        · exact h1.mono hs'
        · subst h0 hx'
          exact hf o e T l _ (by simp) hob hν
      | succ j => exact h2.2 j v s (by simpa using hj) (by simpa using hk)
theorem hasN_mem {l : List Nat} {o : Nat} (h : hasN l o = false) : o ∉ l := by
  induction l with
  | nil => simp
  | cons a l ih =>
    simp only [hasN] at h
    cases hb : Nat.beq a o with
    | true => rw [hb] at h; cases h
    | false =>
      rw [hb] at h
      intro hm
      rcases List.mem_cons.1 hm with rfl | hm
      · simp at hb
      · exact ih h hm
theorem frzs_spec : ∀ {fz : List Nat} {outs : List (Nat × AO S)}, frzs ob fz = some outs → ∃ tlo : List (Nat × AO S), tlo.map (·.1) = fz ∧ fz.Nodup ∧ (∀ q ∈ tlo, ob q.1 = some q.2) ∧ ∀ o e T l, o ∈ fz → ob o = some (.vec e T l) → (o, AO.frz T l) ∈ outs := by
  intro fz
  induction fz with
  | nil => intro outs h; cases h; exact ⟨[], rfl, List.nodup_nil, by simp, by simp⟩
  | cons o fz ih =>
    intro outs h
    simp only [frzs] at h
    cases hb : hasN fz o with
    | true => rw [hb] at h; cases h
    | false =>
      rw [hb] at h
      simp only [cond_false] at h
      split at h
      case h_2 => cases h
      rename_i e T l r hob hr
      cases h
      obtain ⟨tlo, h1, h2, h3, h4⟩ := ih hr
      refine ⟨(o, .vec e T l) :: tlo, by simp [h1], List.nodup_cons.2 ⟨hasN_mem hb, h2⟩, ?_, ?_⟩
      · intro q hq
        rcases List.mem_cons.1 hq with rfl | hq
        · exact hob
        · exact h3 q hq
      · intro o' e' T' l' hm hob'
        rcases List.mem_cons.1 hm with rfl | hm
        · rw [hob] at hob'; cases hob'; simp
        · exact List.mem_cons_of_mem _ (h4 o' e' T' l' hm hob')
theorem Objs.mem : ∀ {os : List (Nat × AO S)} {ms : List HObj}, Objs D ν σ lkc os ms → ∀ {o a}, (o, a) ∈ os → ∃ m, ORep D ν σ lkc o a m
  | [], [], _, _, _, hm => by cases hm
  | (o', a') :: os, m :: ms, h, o, a, hm => by
    rcases List.mem_cons.1 hm with he | hm
    · cases he; exact ⟨m, h.1⟩
    · exact Objs.mem h.2 hm
/-- What has been frozen reads as it should. -/
theorem frz_rep {fz : List Nat} {outs : List (Nat × AO S)} {ms : List HObj} (hf : frzs ob fz = some outs) (ho : Objs D ν σ lkc outs ms) : ∀ o e T l v, o ∈ fz → ob o = some (.vec e T l) → ν o = some v → RepF D σ v (.sl T l) := by
  intro o e T l v hm hob hν
  obtain ⟨_, _, _, _, h4⟩ := frzs_spec hf
  obtain ⟨m, v', hν', _, hr⟩ := ho.mem (h4 o e T l hm hob)
  rw [hν] at hν'; cases hν'
  exact hr
theorem blk_ok {b T : Nat} {cs : List Value} {w : World} (h : (blk b T cs).ok w) : w.heap[b]? = some (.cells cs.toArray T (0, 0)) := h
/-- One object is written. -/
theorem step1 {w w' : World} {h h' : HObj} {ms : List HObj} (hS : St c w σ (h :: ms)) (hk : Keeps h.foot.toList w w') (ho : h'.ok w') (hf : h'.foot = h.foot) : St c w' σ (h' :: ms) :=
  hS.step (i := 0) rfl hk ho (fun k hk => .inl (by rw [← hf]; exact hk)) rfl hS.view.none_of_ge
theorem e_store_cells {t : TypeId} {a x : Operand} {o off b : Nat} {ty : TypeId} {l cs : List (SV S)} (k : Kn D ν σ n f w e ob lkc oh) (hν : ν o = some (.pointer (some ⟨b, 0, none⟩))) (ha : ev n f a = .pointer (some ⟨b, off, none⟩)) (hob : ob o = some (.cells ty l))
    (hcs : cellsS (e x) = some cs) (hT : hasT P t = true) (hsz : szQ P t = cs.length) (hle : off + cs.length ≤ l.length) (hlk : noLk ((l.drop off).take cs.length) = true)
    (h : K [o] [(o, .cells ty (l.take off ++ cs ++ l.drop (off + cs.length)))] none) : EffOk P D ν σ w ob lkc nx (ev n f) (.store t a x) K := by
  have _ := hlk
  refine ⟨_, _, _, [(o, .cells ty l)], h, rfl, by simp, by simpa using hob, fun ins ho hS oo hoo => ?_⟩
  match ins, ho with
  | [m], ho =>
    obtain ⟨b', cs0, hν', hm, hrow⟩ := ho.1
    rw [hν] at hν'; cases hν'
    subst hm
    have hlen : cs0.length = l.length := by rw [hrow.1, noLk_sub]
    have hr := cellsS_ok (k.e x) hcs
    have hlv : (ev n f x).cells.toList.length = szQ P t := by rw [hr.1, hsz]
    have hok := blk_ok (hS.get (i := 0) rfl)
    refine ⟨_, σ, ν, _, _, run_store (P := P) hoo ha rfl rfl (fun w => run_szQ hT w) hlv hr.2.2 hok (by omega), Ext.refl ν, fun m u hu => .inl hu,
      step1 (h' := blk b ty _) hS (setRow_keeps hok _) (setRow_heap w b _ _ _ _ hok) rfl, ⟨⟨b, _, hν, rfl, ?_⟩, trivial⟩, rfl⟩
    have h2 := rowS_splice hrow hr (by rw [noLk_sub]; exact hle)
    unfold splice
    rw [resL_append, resL_append, ← resL_take, resL_id hr]
    have e1 : (0 : Nat) + (l.take off ++ cs).length = 0 + (off + cs.length) := by simp only [List.length_append, List.length_take]; omega
    rw [e1, ← resL_drop]
    exact h2
theorem e_store {t : TypeId} {a x : Operand} (hP : D.OkP P) (k : Kn D ν σ n f w e ob lkc oh) (h : effOp P D e ob nx (.store t a x) K) : EffOk P D ν σ w ob lkc nx (ev n f) (.store t a x) K := by
  have hD := hP.ok
  have hor : ∀ o a, ob o = some a → ORep D ν σ lkc o a (oh o) := fun o a h => (k.o o a h).1
  simp only [effOp] at h
  have ka := k.e a
  generalize hva : ev n f a = va at ka
  generalize e a = sa at h ka
  cases ka with
  | ref o off b hν =>
    simp only at h
    split at h
    · rename_i ty l hob
      obtain ⟨cs, hcs, h⟩ := optK_some h
      obtain ⟨hc, h⟩ := bif_f h
      obtain ⟨hc, h4⟩ := and_b hc
      obtain ⟨hc, h3⟩ := and_b hc
      obtain ⟨h1, h2⟩ := and_b hc
      exact e_store_cells k hν hva hob hcs h1 (Nat.eq_of_beq_eq_true h2) (Nat.le_of_ble_eq_true h3) h4 h
    · rename_i ty T N l0 hob
      split at h
      case h_2 => exact h.elim
      rename_i T' N' l' hxe
      obtain ⟨hc, h⟩ := bif_f h
      obtain ⟨hc, h4⟩ := and_b hc
      obtain ⟨hc, h3⟩ := and_b hc
      obtain ⟨h1, h2⟩ := and_b hc
      have h1 := Nat.eq_of_beq_eq_true h1
      have h2 := Nat.eq_of_beq_eq_true h2
      have h4 := Nat.eq_of_beq_eq_true h4
      obtain ⟨e1, h⟩ := cast_ok h
      subst e1
      refine ⟨_, _, _, [(o, .arr ty T' N l0)], h, rfl, by simp, by simpa using hob, fun ins ho hS oo hoo => ?_⟩
      match ins, ho with
      | [m], ho =>
        obtain ⟨b', cs0, hν', hm, hE, hN⟩ := ho.1
        rw [hν] at hν'; cases hν'
        subst hm
        have kx := hxe ▸ k.e x
        have hok := blk_ok (hS.get (i := 0) rfl)
        generalize hvx : ev n f x = vx at kx
        cases kx with
        | arr cs _ _ _ hN' hl hr =>
          have hlv : cs.length = szQ P t := by rw [hl, hN', ← h2, h4]
          have hl0 : cs0.length = cs.length := by rw [hE.1, hN, hl, hN', h2]
          have hones : ∀ u ∈ cs, u.oneCell' = true := by
            intro u hu
            obtain ⟨j, hj⟩ := List.mem_iff_getElem?.1 hu
            have hjl := lt_of_getq hj
            have hpos := hD.pos T'
            have hdiv : j / D.size T' < l'.length := by rw [Nat.div_lt_iff_lt_mul hpos]; omega
            obtain ⟨y, hy⟩ := getq hdiv
            have hrow := hr _ y hy
            have hm : ((cs.drop (j / D.size T' * D.size T')).take (D.size T'))[j % D.size T']? = some u := by
              rw [List.getElem?_take_of_lt (Nat.mod_lt _ hpos), List.getElem?_drop]
              have : j / D.size T' * D.size T' + j % D.size T' = j := by rw [Nat.mul_comm]; exact Nat.div_add_mod j _
              rw [this]; exact hj
            obtain ⟨s, hs⟩ := getq (l := D.shape T' y) (k := j % D.size T') (by rw [← hrow.1]; exact lt_of_getq hm)
            exact (hrow.2 _ u s hm hs).one
          subst h1
          refine ⟨_, σ, ν, _, _, run_store (P := P) (vs := cs) hoo hva hvx rfl (fun w => run_szQ h3 w) hlv hones hok (by omega), Ext.refl ν, fun m u hu => .inl hu,
            step1 (h' := blk b ty _) hS (setRow_keeps hok _) (setRow_heap w b _ _ _ _ hok) rfl, ⟨⟨b, _, hν, rfl, ?_, hN'.trans h2.symm⟩, trivial⟩, rfl⟩
          rw [splice_all hl0.symm]
          exact ⟨hl, hr⟩
    · exact h.elim
  | eref T o i off b m cap hν hi =>
    simp only at h
    split at h
    case h_2 => exact h.elim
    rename_i ety T' l hob
    obtain ⟨e1, h⟩ := cast_ok h
    subst e1
    obtain ⟨cs, hcs, h⟩ := optK_some h
    obtain ⟨q, hq, h⟩ := optK_some h
    obtain ⟨fz, hfz, h⟩ := optK_some h
    obtain ⟨hc, h⟩ := bif_f h
    obtain ⟨hc, h4⟩ := and_b hc
    obtain ⟨hc, h3⟩ := and_b hc
    obtain ⟨h1, h2⟩ := and_b hc
    have h2 := Nat.eq_of_beq_eq_true h2
    have h3 := Nat.le_of_ble_eq_true h3
    obtain ⟨xs, fn⟩ := q
    simp only at hfz h h4
    obtain ⟨hR, hok0⟩ := k.o o _ hob
    obtain ⟨v0, xs0, hν0, hh0, hE0, _⟩ := hR
    rw [hν] at hν0; cases hν0
    rw [hh0] at hok0
    have hm : m = l.length := by
      rcases (vec_shape hok0).2 with ⟨h1, _⟩ | ⟨g, cap', h1, _⟩
      · cases h1
      · cases h1; rfl
    subst hm
    obtain ⟨y, hy⟩ := getq (l := l) (k := i) (by omega)
    obtain ⟨y', hy', h⟩ := optK_some (h y hy)
    obtain ⟨tlo, ht1, ht2, ht3, _⟩ := frzs_spec hfz
    have hno : o ∉ fn := hasN_mem (by simpa using h4)
    refine ⟨_, _, _, (o, .vec ety T' l) :: tlo, h, by simp [ht1], List.nodup_cons.2 ⟨hno, ht2⟩, ?_, fun ins ho hS oo hoo => ?_⟩
    · intro q hq
      rcases List.mem_cons.1 hq with rfl | hq
      · exact hob
      · exact ht3 q hq
    match ins, ho with
    | mo :: ins, ho =>
      obtain ⟨v1, xs1, hν1, hm1, hE, hl47⟩ := ho.1
      rw [hν] at hν1; cases hν1
      subst hm1
      obtain ⟨σ1, ms1, hS1, hs1, ho1⟩ := freeze_all (ms := [vec (.slice (some ⟨b, 0, none⟩) l.length cap) ety (D.size T') l.length xs1]) hD hfz ht1 ht3 ho.2 hS
      have hr := cellsS_ok (k.e x) hcs
      have hrF := toFs_ok hD hor hs1 hr hq (frz_rep hfz ho1)
      have hlv : (ev n f x).cells.toList.length = szQ P t := by rw [hr.1, h2]
      have hb1 : (i + 1) * D.size T' ≤ l.length * D.size T' := Nat.mul_le_mul_right _ (lt_of_getq hy)
      rw [Nat.add_mul, Nat.one_mul] at hb1
      obtain ⟨w', hrun, hkeep, hok'⟩ := run_storeV (P := P) hoo hva rfl rfl (fun w => run_szQ h1 w) hlv hr.2.2 (hS1.get (i := 0) rfl) (by omega)
      have hE1 := hE.mono hs1
      refine ⟨w', σ1, ν, _, _, hrun, Ext.refl ν, fun m u hu => .inl hu, step1 (h' := vec (.slice (some ⟨b, 0, none⟩) l.length cap) ety (D.size T') l.length _) hS1 hkeep hok' rfl, ⟨⟨_, splice xs1 (i * D.size T' + off) (ev n f x).cells.toList, hν, by simp, ?_, by simpa using hl47⟩, ho1⟩, rfl⟩
      refine splice_els hE1 hy (by rw [hr.1]; exact h3) fun cs1 hcs1 => ?_
      have hx := toFs_len hq
      refine hD.bld _ _ _ _ _ hy' ?_
      rw [hr.1, ← hx]
      have hh := rowF_splice hcs1 hrF (off := off) (by rw [hD.len, hx]; exact h3)
      rw [hrF.1] at hh
      exact hh
  | aref T N o i off b hν hi =>
    simp only at h
    split at h
    case h_2 => exact h.elim
    rename_i ty T' N' l hob
    obtain ⟨hN, h⟩ := bif_f h
    have hN := Nat.eq_of_beq_eq_true hN
    obtain ⟨e1, h⟩ := cast_ok h
    subst e1
    obtain ⟨cs, hcs, h⟩ := optK_some h
    obtain ⟨q, hq, h⟩ := optK_some h
    obtain ⟨hc, h⟩ := bif_f h
    obtain ⟨hc, h3⟩ := and_b hc
    obtain ⟨hc, h2⟩ := and_b hc
    obtain ⟨h0, h1⟩ := and_b hc
    have h2 := Nat.eq_of_beq_eq_true h2
    have h3 := Nat.le_of_ble_eq_true h3
    obtain ⟨xs, fz⟩ := q
    have hfz : fz = [] := by simpa using h0
    subst hfz
    obtain ⟨hR, _⟩ := k.o o _ hob
    obtain ⟨_, _, _, _, _, hlN⟩ := hR
    obtain ⟨y, hy⟩ := getq (l := l) (k := i) (by omega)
    obtain ⟨y', hy', h⟩ := optK_some (h y hy)
    refine ⟨_, _, _, [(o, .arr ty T' N' l)], h, rfl, by simp, by simpa using hob, fun ins ho hS oo hoo => ?_⟩
    match ins, ho with
    | [m], ho =>
      obtain ⟨b', cs0, hν', hm, hE, hN'⟩ := ho.1
      rw [hν] at hν'; cases hν'
      subst hm
      have hok := blk_ok (hS.get (i := 0) rfl)
      have hr := cellsS_ok (k.e x) hcs
      have hrF := toFs_nil hD hor hr hq
      have hlv : (ev n f x).cells.toList.length = szQ P t := by rw [hr.1, h2]
      have hb1 : (i + 1) * D.size T' ≤ l.length * D.size T' := Nat.mul_le_mul_right _ (lt_of_getq hy)
      rw [Nat.add_mul, Nat.one_mul] at hb1
      have hl0 := hE.1
      refine ⟨_, σ, ν, _, _, run_store (P := P) hoo hva rfl rfl (fun w => run_szQ h1 w) hlv hr.2.2 hok (by omega), Ext.refl ν, fun m u hu => .inl hu,
        step1 (h' := blk b ty _) hS (setRow_keeps hok _) (setRow_heap w b _ _ _ _ hok) rfl, ⟨⟨b, _, hν, rfl, ?_, by simpa using hN'⟩, trivial⟩, rfl⟩
      refine splice_els hE hy (by rw [hr.1]; exact h3) fun cs1 hcs1 => ?_
      have hx := toFs_len hq
      refine hD.bld _ _ _ _ _ hy' ?_
      rw [hr.1, ← hx]
      have hh := rowF_splice hcs1 hrF (off := off) (by rw [hD.len, hx]; exact h3)
      rw [hrF.1] at hh
      exact hh
  | _ => exact h.elim
end Go.Fx
end
section
namespace Go.Fx
open Go Go.RowKit Go.Fl Go.Fl.Lk
variable {S : Sig} {P : Program} {D : Shp S} {ν ν' : Nm} {σ τ : Hv} {n : Nat} {f : Fr}
variable {w : World} {e : Operand → SV S} {ob : Nat → Option (AO S)} {lkc : Nat → Nat → SV S} {oh : Nat → HObj} {c : Cx}
variable {nx : Nat} {K : List Nat → List (Nat × AO S) → Option (SV S) → Prop}
theorem e_makeMap {t : TypeId} (hnx : ν nx = none) (h : effOp P D e ob nx (.makeMap t none) K) : EffOk P D ν σ w ob lkc nx (ev n f) (.makeMap t none) K := by
  simp only [effOp] at h
  split at h
  case h_2 => exact h.elim
  rename_i Kc V hmc
  refine ⟨_, _, _, [], h, rfl, List.nodup_nil, by simp, fun ins ho hS oo hoo => ?_⟩
  cases ins with
  | cons => exact ho.elim
  | nil =>
    refine ⟨w.alloc (.map #[] 0), σ, ν.add nx (.map (some w.heap.size)), [smapK (kenc D Kc) w.heap.size fun _ => none], .value (.map (some w.heap.size)), by simp [execOp, hoo, Instr.makeMap], Nm.add_ext hnx, Nm.add_new,
      hS.add (alloc_keeps w _) ⟨#[], 0, ?_, by simp [KeysOf], fun k => rfl, by simp [MBk]⟩ (by rintro k ⟨⟩; exact Nat.le_refl _), ⟨⟨_, _, Nm.add_self, rfl, fun k => trivial⟩, trivial⟩, ⟨_, rfl, .hnd nx _ Nm.add_self rfl⟩⟩
    exact heap_alloc_new _ _
theorem e_mapUpdate {t : TypeId} {m x v : Operand} (hP : D.OkP P) (k : Kn D ν σ n f w e ob lkc oh) (h : effOp P D e ob nx (.mapUpdate t m x v) K) : EffOk P D ν σ w ob lkc nx (ev n f) (.mapUpdate t m x v) K := by
  have hD := hP.ok
  have hor : ∀ o a, ob o = some a → ORep D ν σ lkc o a (oh o) := fun o a h => (k.o o a h).1
  simp only [effOp] at h
  split at h
  case h_2 => exact h.elim
  rename_i Kc V o ks vs hmc hm hks hvs
  obtain ⟨kt, et, hu, hK, hkey, hT, hA, hsz, z, hz, hzr⟩ := hP.map _ _ _ hmc
  split at h
  case h_2 => exact h.elim
  rename_i K' V' F hob
  obtain ⟨q, hq, h⟩ := optK_some h
  obtain ⟨q', hq', h⟩ := optK_some h
  obtain ⟨fz, hfz, h⟩ := optK_some h
  obtain ⟨hc, h⟩ := bif_f h
  obtain ⟨h0, h1⟩ := and_b hc
  obtain ⟨ky, hky, h⟩ := optK_some h
  obtain ⟨y, hy, h⟩ := optK_some h
  obtain ⟨e1, e2, hfin⟩ := withMap_ok h
  clear h
  subst e1 e2
  obtain ⟨xs, fx⟩ := q
  obtain ⟨ys, fn⟩ := q'
  have hfx : fx = [] := by simpa using h0
  subst hfx
  obtain ⟨tlo, ht1, ht2, ht3, _⟩ := frzs_spec hfz
  have hno : o ∉ fn := hasN_mem (by simpa using h1)
  refine ⟨_, _, _, (o, .map K' V' F) :: tlo, hfin, by simp [ht1], List.nodup_cons.2 ⟨hno, ht2⟩, ?_, fun ins ho hS oo hoo => ?_⟩
  · intro q hq
    rcases List.mem_cons.1 hq with rfl | hq
    · exact hob
    · exact ht3 q hq
  match ins, ho with
  | mo :: ins, ho =>
    obtain ⟨b, mm, hν, hmo, hF⟩ := ho.1
    subst hmo
    obtain ⟨σ1, ms1, hS1, hs1, ho1⟩ := freeze_all (ms := [smapK (kenc D K') b mm]) hD hfz ht1 ht3 ho.2 hS
    have hrow := toFs_nil hD hor (cellsS_ok (k.e x) (keyS_cells hks)) hq
    have hrow2 := hD.bld _ _ _ _ _ hky hrow
    have hxv : ev n f x = kenc D K' ky := by
      unfold kenc
      rw [← row_val hrow2 (hkey ky)]
      exact asV_cells (k.e x) hks
    have hmv : ev n f m = .map (some b) := rep_hnd (hm ▸ k.e m) hν
    have hvr := toFs_ok hD hor hs1 (cellsS_ok (k.e v) (keyS_cells hvs)) hq' (frz_rep hfz ho1)
    have hvr2 := hD.bld _ _ _ _ _ hy hvr
    have hvv := asV_cells (k.e v) hvs
    obtain ⟨w', hrun, hkeep, hok⟩ := run_putK (k := ky) (v := ev n f v) hK hu (hS1.get (i := 0) rfl)
    refine ⟨w', σ1, ν, _, _, by simp only [execOp, hoo, hmv, hxv, Sem.run_bind, hrun, Result.andThen_ok]; rfl, Ext.refl ν, fun m u hu => .inl hu, step1 hS1 hkeep hok rfl, ⟨⟨b, _, hν, rfl, fun k' => ?_⟩, ho1⟩, rfl⟩
    unfold put
    by_cases hk : k' = ky
    · rw [if_pos hk, if_pos hk]
      exact ⟨_, hvr2, hvv⟩
    · rw [if_neg hk, if_neg hk]
      exact (hF k').imp fun v y h => h.mono hs1
/-- The elements of a literal, laid after one another. -/
theorem lit_ok {T : S.C} (hD : D.Ok) (hor : ∀ o a, ob o = some a → ORep D ν σ lkc o a (oh o)) (hs' : Sub σ τ) : ∀ {vs : List Value} {ss : List (SV S)} {l : List (S.car T)} {fn : List Nat}, vs.length = ss.length →
    (∀ (j : Nat) v s, vs[j]? = some v → ss[j]? = some s → SRep D ν σ v s) → litEls D ob T ss = some (l, fn) → (∀ o e T l v, o ∈ fn → ob o = some (.vec e T l) → ν o = some v → RepF D τ v (.sl T l)) →
    Els D τ T (vs.flatMap fun v => v.cells.toList) l ∧ l.length = vs.length ∧ ∀ v ∈ vs, v.cells.toList.length = D.size T ∧ ∀ u ∈ v.cells.toList, u.oneCell' = true := by
  intro vs
  induction vs with
  | nil =>
    intro ss l fn hl _ h _
    cases ss with
    | cons => cases hl
    | nil => cases h; exact ⟨⟨by simp, fun i x hx => by simp at hx⟩, rfl, by simp⟩
  | cons v vs ih =>
    intro ss l fn hl hr h hf
    cases ss with
    | nil => cases hl
    | cons s ss =>
      simp only [litEls] at h
      split at h
      case h_2 => cases h
      rename_i cs hcs
      split at h
      case h_2 => cases h
      rename_i xs a hxs
      split at h
      case h_2 => cases h
      rename_i y ys b hy hys
      cases h
      have hc := cellsS_ok (hr 0 v s rfl rfl) hcs
      have hrow := toFs_ok hD hor hs' hc hxs (fun o e T l v hm => hf o e T l v (by simp [hm]))
      have hrow2 := hD.bld _ _ _ _ _ hy hrow
      have hlen : v.cells.toList.length = D.size T := by rw [hrow2.1, hD.len]
      obtain ⟨h1, h2, h3⟩ := ih (ss := ss) (by simpa using hl) (fun j v s hj hk => hr (j + 1) v s (by simpa using hj) (by simpa using hk)) hys (fun o e T l v hm => hf o e T l v (by simp [hm]))
      refine ⟨⟨?_, fun i x hx => ?_⟩, by simp [h2], ?_⟩
      · have := h1.1
        rw [List.flatMap_cons, List.length_append, hlen, this, List.length_cons, Nat.add_mul, Nat.one_mul, Nat.add_comm]
      · rw [List.flatMap_cons]
        cases i with
        | zero =>
          cases hx
          rw [Nat.zero_mul, List.drop_zero, List.take_append_of_le_length (by omega), List.take_of_length_le (by omega)]
          exact hrow2
        | succ i =>
          rw [Nat.add_mul, Nat.one_mul, Nat.add_comm, ← List.drop_drop, List.drop_left' hlen]
          exact h1.2 i x (by simpa using hx)
      · intro u hu
        rcases List.mem_cons.1 hu with rfl | hu
        · exact ⟨hlen, hc.2.2⟩
        · exact h3 u hu
/-- A literal whose parts come in order fills its row. -/
theorem fill_lit {sz : Nat} {r : Operand → Value} : ∀ (parts : List (Nat × Operand)) (i : Nat) (done rest : List Value), inOrder i parts = true → done.length = i * sz → (∀ q ∈ parts, (r q.2).cells.toList.length = sz) → rest.length = parts.length * sz →
    Instr.fill (fun i => some (i * sz, sz)) (done ++ rest).toArray (parts.map fun q => (q.1, r q.2)) = some (done ++ (parts.flatMap fun q => (r q.2).cells.toList)).toArray := by
  intro parts
  induction parts with
  | nil =>
    intro i done rest _ _ _ hr
    have : rest = [] := List.eq_nil_of_length_eq_zero (by simpa using hr)
    subst this
    rfl
  | cons q parts ih =>
    intro i done rest hi hd hs hr
    obtain ⟨j, x⟩ := q
    simp only [inOrder] at hi
    obtain ⟨h1, h2⟩ := and_b hi
    have h1 := Nat.eq_of_beq_eq_true h1
    subst h1
    have hx := hs (i, x) (by simp)
    simp only at hx
    rw [List.length_cons, Nat.add_mul, Nat.one_mul] at hr
    rw [List.map_cons, Instr.fill]
    simp only
    have hsz : (r x).cells.size = sz := by rw [← Array.length_toList, hx]
    rw [if_neg (by simp only [hsz, ne_eq, not_true_eq_false, decide_false, Bool.false_or, decide_eq_true_eq, List.size_toArray, List.length_append]; omega)]
    have h3 := setCells_eq (r x).cells.toList (done ++ rest) (i * sz) (by rw [hx, List.length_append]; omega)
    have e1 : (done ++ rest).take (i * sz) = done := by rw [← hd]; simp
    have e2 : (done ++ rest).drop (i * sz + (r x).cells.toList.length) = rest.drop sz := by rw [← hd, hx, ← List.drop_drop]; simp
    rw [e1, e2] at h3
    have h4 : (r x).cells.zipIdx.foldl (fun cs (q : Value × Nat) => cs.setIfInBounds (i * sz + q.2) q.1) (done ++ rest).toArray = ((done ++ (r x).cells.toList) ++ rest.drop sz).toArray := by
      rw [← h3, ← Array.foldl_toList, Array.toList_zipIdx]
    have h5 := ih (i + 1) (done ++ (r x).cells.toList) (rest.drop sz) h2 (by rw [List.length_append, hd, hx, Nat.add_mul, Nat.one_mul]) (fun q hq => hs q (by simp [hq])) (by rw [List.length_drop, hr]; omega)
    rw [← h4] at h5
    rw [h5, List.flatMap_cons, List.append_assoc]
theorem e_buildSlice {t : TypeId} {len : Nat} {parts : Array (Nat × Operand)} (hP : D.OkP P) (hnx : ν nx = none) (k : Kn D ν σ n f w e ob lkc oh) (h : effOp P D e ob nx (.buildSlice t len parts) K) : EffOk P D ν σ w ob lkc nx (ev n f) (.buildSlice t len parts) K := by
  have hD := hP.ok
  have hor : ∀ o a, ob o = some a → ORep D ν σ lkc o a (oh o) := fun o a h => (k.o o a h).1
  simp only [effOp] at h
  split at h
  case h_2 => exact h.elim
  rename_i el hu
  split at h
  case h_2 => exact h.elim
  rename_i T hcode
  obtain ⟨hc, h⟩ := bif_f h
  obtain ⟨hc, h6⟩ := and_b hc
  obtain ⟨hc, h5⟩ := and_b hc
  obtain ⟨hc, h4⟩ := and_b hc
  obtain ⟨hc, h3⟩ := and_b hc
  obtain ⟨h1, h2⟩ := and_b hc
  have h2 := Nat.eq_of_beq_eq_true h2
  have h4 := Nat.eq_of_beq_eq_true h4
  have h5 := Nat.le_of_ble_eq_true h5
  obtain ⟨q, hq, h⟩ := optK_some h
  obtain ⟨fz, hfz, h⟩ := optK_some h
  obtain ⟨l, fn⟩ := q
  obtain ⟨tlo, ht1, ht2, ht3, _⟩ := frzs_spec hfz
  refine ⟨_, _, _, tlo, h, ht1, ht2, ht3, fun ins ho hS oo hoo => ?_⟩
  obtain ⟨σ1, ms1, hS1, hs1, ho1⟩ := freeze_all (ms := []) hD hfz ht1 ht3 ho hS
  rw [List.nil_append] at hS1
  obtain ⟨hE, hl, hcell⟩ := lit_ok (T := T) (vs := parts.toList.map fun q => ev n f q.2) hD hor hs1 (by simp) (fun j v s hj hs => by
    rw [List.getElem?_map] at hj hs
    rcases hp : parts.toList[j]? with _ | x
    · rw [hp] at hj; cases hj
    · rw [hp] at hj hs; cases hj; cases hs; exact k.e _) hq (frz_rep hfz ho1)
  have hlen : l.length = len := by rw [hl, ← h4]; simp
  obtain ⟨z, hz⟩ := Option.isSome_iff_exists.1 h6
  obtain ⟨i, hi, hz⟩ := Option.bind_eq_some_iff.1 hz
  have hrest : ((Array.range (len * szQ P el)).map fun j => (if len * szQ P el = 0 then (#[] : Array Value) else z.cells)[j % (if len * szQ P el = 0 then (#[] : Array Value) else z.cells).size]!).toList.length = parts.toList.length * szQ P el := by simp [← h4]
  have hfill := fill_lit (r := ev n f) (sz := szQ P el) parts.toList 0 [] _ h3 (by simp) (fun q hq => by rw [h2]; exact (hcell (ev n f q.2) (List.mem_map.2 ⟨q, hq, rfl⟩)).1) hrest
  have hpm : (parts.map fun (i, x) => (i, ev n f x)).toList = parts.toList.map fun q => (q.1, ev n f q.2) := by simp
  have hfm : (parts.toList.flatMap fun q => (ev n f q.2).cells.toList) = (parts.toList.map fun q => ev n f q.2).flatMap fun v => v.cells.toList := by rw [List.flatMap_map]
  rw [List.nil_append, Array.toArray_toList, List.nil_append, hfm] at hfill
  have hcl : ((parts.toList.map fun q => ev n f q.2).flatMap fun v => v.cells.toList).length = len * D.size T := by rw [hE.1, hlen]
  have hrun : (execOp (ev n f) oo).run P w = .ok (.value (.slice (some ⟨w.heap.size, 0, none⟩) len len)) (w.alloc (.cells ((parts.toList.map fun q => ev n f q.2).flatMap fun v => v.cells.toList).toArray el)) := by
    have hzr : ∀ w, (zeroValue el).run P w = .ok z w := by intro w; simp [zeroValue, typeInfo, hi, hz]
    have hbig : ¬ len * szQ P el > 2 ^ 24 := by omega
    by_cases h0 : len * szQ P el = 0
    · rw [if_pos h0] at hfill
      simp only [execOp, hoo, Instr.buildSlice, Sem.run_bind, run_underlying hu, Result.andThen_ok, run_szQ h1, if_neg hbig, if_pos h0, Sem.run_pure, hpm]
      rw [hfill]
      simp [newRow, newObj, Sem.run]
    · rw [if_neg h0] at hfill
      simp only [execOp, hoo, Instr.buildSlice, Sem.run_bind, run_underlying hu, Result.andThen_ok, run_szQ h1, if_neg hbig, if_neg h0, Sem.run_pure, hzr, hpm]
      rw [hfill]
      simp [newRow, newObj, Sem.run]
  refine ⟨_, σ1, ν.add nx (.slice (some ⟨w.heap.size, 0, none⟩) len len), vec (.slice (some ⟨w.heap.size, 0, none⟩) len len) el (D.size T) len ((parts.toList.map fun q => ev n f q.2).flatMap fun v => v.cells.toList) :: ms1, _, hrun, Nm.add_ext hnx, Nm.add_new, ?_,
    ⟨⟨_, _, Nm.add_self, by rw [hlen], hE, ?_⟩, ho1.mono (Nm.add_ext hnx) (Sub.refl _)⟩, ⟨_, rfl, .hnd nx _ Nm.add_self rfl⟩⟩
  · refine hS1.add (alloc_keeps w _) ?_ (by rintro k ⟨⟩; exact Nat.le_refl _)
    refine ⟨hcl, .inr ⟨_, len, _, rfl, Nat.zero_le _, heap_alloc_new _ _, Nat.le_refl _, ?_, by simp [← hcl], ?_⟩⟩
    · have : len ≤ len * szQ P el := Nat.le_mul_of_pos_right _ (by rw [h2]; exact hD.pos T)
      simp only [maxLen]; omega
    · show List.take _ _ = _
      exact List.take_of_length_le (by rw [Array.length_toList] at *; simpa using Nat.le_of_eq hcl)
  · have : len ≤ len * szQ P el := Nat.le_mul_of_pos_right _ (by rw [h2]; exact hD.pos T)
    show l.length ≤ _
    omega
theorem els_rep (hD : D.Ok) {T : S.C} {z : S.car T} {cs : List Value} (hz : RowF D σ cs (D.shape T z)) (k : Nat) : Els D σ T ((List.replicate k cs).flatten) (List.replicate k z) := by
  have hl : cs.length = D.size T := by rw [hz.1, hD.len]
  induction k with
  | zero => exact ⟨by simp, fun i x hx => by simp at hx⟩
  | succ k ih =>
    refine ⟨?_, fun i x hx => ?_⟩
    · have := ih.1
      rw [List.replicate_succ, List.flatten_cons, List.length_append, this, hl, List.replicate_succ, List.length_cons, Nat.add_mul, Nat.one_mul, Nat.add_comm]
    · rw [List.replicate_succ, List.flatten_cons]
      rw [List.replicate_succ] at hx
      cases i with
      | zero =>
        cases hx
        rw [Nat.zero_mul, List.drop_zero, List.take_append_of_le_length (by omega), List.take_of_length_le (by omega)]
        exact hz
      | succ i =>
        rw [Nat.add_mul, Nat.one_mul, Nat.add_comm, ← List.drop_drop, List.drop_left' hl]
        exact ih.2 i x (by simpa using hx)
theorem made_flat (cs : List Value) (k : Nat) : (madeCells cs.toArray (k * cs.length)).toList = (List.replicate k cs).flatten := by
  have hlen : (List.replicate k cs).flatten.length = k * cs.length := by simp
  apply List.ext_getElem?
  intro m
  rcases Nat.lt_or_ge m (k * cs.length) with hm | hm
  · have hpos : 0 < cs.length := by
      rcases Nat.eq_zero_or_pos cs.length with h | h
      · rw [h] at hm; omega
      · exact h
    have hi : m / cs.length < k := by rw [Nat.div_lt_iff_lt_mul hpos]; exact hm
    have e1 : (List.replicate k cs).flatten[m]? = cs[m % cs.length]? := by
      have key : ∀ (k m : Nat), m < k * cs.length → (List.replicate k cs).flatten[m]? = cs[m % cs.length]? := by
        intro k
        induction k with
        | zero => intro m hm; simp at hm
        | succ k ih =>
          intro m hm
          rw [List.replicate_succ, List.flatten_cons]
          rw [Nat.add_mul, Nat.one_mul] at hm
          rcases Nat.lt_or_ge m cs.length with h | h
          · rw [List.getElem?_append_left h, Nat.mod_eq_of_lt h]
          · rw [List.getElem?_append_right h, ih _ (by omega), Nat.mod_eq_sub_mod h]
      exact key k m hm
    rw [e1]
    have hlt := Nat.mod_lt m hpos
    simp [madeCells, hm, hlt]
  · rw [List.getElem?_eq_none (by simpa [madeCells] using hm), List.getElem?_eq_none (by rw [hlen]; exact hm)]
theorem intQ_ok {x : Operand} {i : Int} (k : Kn D ν σ n f w e ob lkc oh) (h : intQ (e x) = some i) : ev n f x = .int .i64 i := by
  have hx := k.e x
  generalize e x = s at h hx
  unfold intQ at h
  split at h
  · cases h; exact rep_int hx
  · cases h
theorem run_make_cap (w : World) (t e : TypeId) (i : TypeInfo) (z : Value) (size : Nat) (ht : P.underlying t = some (.slice e)) (hi : P.info? e = some i) (hz : i.zero = some z) (hsize : i.size = size) (hzl : z.cells.toList.length = size)
    (n c : Nat) (hnc : n ≤ c) (hbytes : i.bytes * c ≤ 281474976710656) (h63 : c ≤ maxLen) :
    ∃ w', (Instr.makeSlice t (.int .i64 (n : Int)) (.int .i64 (c : Int))).run P w = .ok (.slice (some ⟨w.heap.size, 0, none⟩) n c) w' ∧
      w'.ownsRow 0 e size (.slice (some ⟨w.heap.size, 0, none⟩) n c) n (List.replicate n z.cells.toList).flatten ∧ w.grownBy w' none := by
  subst hsize
  have h63' : (c : Int) ≤ 9223372036854775807 := by
    have h := h63
    simp [maxLen] at h
    omega
  have hb' : (i.bytes : Int) * (c : Int) ≤ 281474976710656 := by
    have h : ((i.bytes * c : Nat) : Int) ≤ 281474976710656 := by omega
    rwa [Int.natCast_mul] at h
  have hr := run_make (P := P) w t e i z ht hi hz .i64 .i64 n c (by omega) (by omega) hb' h63'
  simp only [Int.toNat_natCast] at hr
  have hmade : (madeCells z.cells (c * i.size)).toList = (List.replicate c z.cells.toList).flatten := by
    have := made_flat z.cells.toList c
    rw [hzl, Array.toArray_toList] at this
    exact this
  refine ⟨_, hr, ⟨by simp [hzl], .inr ⟨w.heap.size, c, madeCells z.cells (c * i.size), rfl, Nat.zero_le _, heap_alloc_new w _, hnc, h63, size_madeCells _ _, ?_⟩⟩, World.grownBy_alloc w _ none⟩
  obtain ⟨d, rfl⟩ : ∃ d, c = n + d := ⟨c - n, by omega⟩
  rw [hmade, ← List.replicate_append_replicate, List.flatten_append, List.take_append_of_le_length (by simp [hzl]), List.take_of_length_le (by simp [hzl])]
theorem e_makeSlice {t : TypeId} {x y : Operand} (hP : D.OkP P) (hnx : ν nx = none) (k : Kn D ν σ n f w e ob lkc oh) (h : effOp P D e ob nx (.makeSlice t x y) K) : EffOk P D ν σ w ob lkc nx (ev n f) (.makeSlice t x y) K := by
  have hD := hP.ok
  simp only [effOp] at h
  split at h
  case h_2 => exact h.elim
  rename_i el hu
  split at h
  case h_2 => exact h.elim
  rename_i T a b hcode ha hb
  split at h
  case h_2 => exact h.elim
  rename_i i hi
  obtain ⟨hc, ⟨h0, hab, hsm⟩, hfin⟩ := bif_f h
  clear h
  obtain ⟨hc, h4⟩ := and_b hc
  obtain ⟨hc, h3⟩ := and_b hc
  obtain ⟨h1, h2⟩ := and_b hc
  have h2 := Nat.eq_of_beq_eq_true h2
  have h4 := Nat.le_of_ble_eq_true h4
  obtain ⟨z, hz⟩ := Option.isSome_iff_exists.1 h3
  have hzr := hP.zero _ _ _ _ hcode hi hz
  refine ⟨_, _, _, [], hfin, rfl, List.nodup_nil, by simp, fun ins ho hS oo hoo => ?_⟩
  cases ins with
  | cons => exact ho.elim
  | nil =>
    have hsm' := sml_bytes hsm h4
    have hka : a = ((a.toNat : Nat) : Int) := by omega
    have hkb : b = ((b.toNat : Nat) : Int) := by omega
    have hzl : z.cells.toList.length = D.size T := by rw [(hzr σ).1, hD.len]
    obtain ⟨w', hr, hown, hg⟩ := run_make_cap (P := P) w t el i z (D.size T) hu hi hz h2 hzl a.toNat b.toNat (by omega) (by rw [Nat.mul_comm]; omega) hsm'.2
    have hrun : (execOp (ev n f) oo).run P w = .ok (.value (.slice (some ⟨w.heap.size, 0, none⟩) a.toNat b.toNat)) w' := by
      have hxa := intQ_ok k ha
      have hya := intQ_ok k hb
      rw [hka] at hxa
      rw [hkb] at hya
      simp only [execOp, hoo, hxa, hya, Sem.run_bind, hr, Result.andThen_ok]
      rfl
    refine ⟨w', σ, ν.add nx (.slice (some ⟨w.heap.size, 0, none⟩) a.toNat b.toNat), [vec (.slice (some ⟨w.heap.size, 0, none⟩) a.toNat b.toNat) el (D.size T) a.toNat (List.replicate a.toNat z.cells.toList).flatten], _, hrun, Nm.add_ext hnx, Nm.add_new, ?_,
      ⟨⟨_, (List.replicate a.toNat z.cells.toList).flatten, Nm.add_self, by rw [List.length_replicate], els_rep hD (hzr σ) _, ?_⟩, trivial⟩, ⟨_, rfl, .hnd nx _ Nm.add_self rfl⟩⟩
    · exact hS.add ⟨hg.os, hg.tape, hg.output, hg.size, fun k hk _ => hg.block k hk (by simp)⟩ hown (by rintro k ⟨⟩; exact Nat.le_refl _)
    · have := hsm
      unfold Sml at this
      simp; omega
/-- A list that is read, as one row. -/
theorem RSl.row {α : Type} {size : Nat} {R : Hv → List Value → α → Prop} {v : Value} {l : List α} (h : RSl size R σ v l) : ∃ a cap, v = .slice a l.length cap ∧ ((a = none ∧ l = []) ∨ ∃ ad xs, a = some ad ∧ xs.length = l.length * size ∧ VRow σ ad xs ∧
    ∀ (i : Nat) x, l[i]? = some x → R σ ((xs.drop (i * size)).take size) x) := by
  obtain ⟨a, cap, h1, h2, h3, h4⟩ := h
  refine ⟨a, cap, h1, ?_⟩
  cases a with
  | none =>
    left
    refine ⟨rfl, ?_⟩
    cases l with
    | nil => rfl
    | cons x l => obtain ⟨_, _, h0, _⟩ := h4 0 x rfl; cases h0
  | some ad =>
    right
    refine ⟨ad, (List.range (l.length * size)).map fun m => (σ.cell (ad.add m)).getD undef, rfl, by simp, ?_, ?_⟩
    · intro j u hj
      rw [List.getElem?_map] at hj
      rcases Nat.lt_or_ge j (l.length * size) with hlt | hge
      · rw [List.getElem?_range hlt] at hj
        have hpos : 0 < size := by
          rcases Nat.eq_zero_or_pos size with h | h
          · rw [h] at hlt; omega
          · exact h
        have hdiv : j / size < l.length := by rw [Nat.div_lt_iff_lt_mul hpos]; exact hlt
        obtain ⟨x, hx⟩ := getq hdiv
        obtain ⟨ad', cs, ha, hl, hr, _⟩ := h4 _ x hx
        cases ha
        obtain ⟨u', hu'⟩ := getq (l := cs) (k := j % size) (by rw [hl]; exact Nat.mod_lt _ hpos)
        have := hr _ u' hu'
        rw [addr_add] at this
        have e : j / size * size + j % size = j := by rw [Nat.mul_comm]; exact Nat.div_add_mod j _
        rw [e] at this
        simp only [Option.map_some, this, Option.getD_some, Option.some.injEq] at hj
        rw [this, hj]
      · rw [List.getElem?_eq_none (by simpa using hge)] at hj; cases hj
    · intro i x hx
      obtain ⟨ad', cs, ha, hl, hr, hR⟩ := h4 i x hx
      cases ha
      have hi := lt_of_getq hx
      have hm : (i + 1) * size ≤ l.length * size := Nat.mul_le_mul_right _ hi
      rw [Nat.add_mul, Nat.one_mul] at hm
      have e : (((List.range (l.length * size)).map fun m => (σ.cell (ad.add m)).getD undef).drop (i * size)).take size = cs := by
        apply List.ext_getElem?
        intro j
        rw [List.getElem?_take]
        split
        · rename_i hj
          rw [List.getElem?_drop, List.getElem?_map, List.getElem?_range (by omega)]
          obtain ⟨u, hu⟩ := getq (l := cs) (k := j) (by omega)
          have := hr j u hu
          rw [addr_add] at this
          rw [hu, Option.map_some, this]; rfl
        · rename_i hj
          rw [List.getElem?_eq_none (by omega)]
      rw [e]; exact hR
theorem els_append {T : S.C} {xs ys : List Value} {l l' : List (S.car T)} (h : Els D σ T xs l) (h' : Els D σ T ys l') : Els D σ T (xs ++ ys) (l ++ l') := by
  refine ⟨by rw [List.length_append, h.1, h'.1, List.length_append, Nat.add_mul], fun i x hx => ?_⟩
  rcases Nat.lt_or_ge i l.length with hlt | hge
  · rw [List.getElem?_append_left hlt] at hx
    have hm : (i + 1) * D.size T ≤ l.length * D.size T := Nat.mul_le_mul_right _ hlt
    rw [Nat.add_mul, Nat.one_mul, ← h.1] at hm
    have e : ((xs ++ ys).drop (i * D.size T)).take (D.size T) = (xs.drop (i * D.size T)).take (D.size T) := by
      rw [List.drop_append_of_le_length (by omega), List.take_append_of_le_length (by rw [List.length_drop]; omega)]
    rw [e]; exact h.2 i x hx
  · rw [List.getElem?_append_right hge] at hx
    have e : i * D.size T = xs.length + (i - l.length) * D.size T := by rw [h.1, ← Nat.add_mul]; congr 1; omega
    rw [e, ← List.drop_drop, List.drop_left' rfl]
    exact h'.2 _ x hx
theorem els_ones {T : S.C} {xs : List Value} {l : List (S.car T)} (hD : D.Ok) (h : Els D σ T xs l) : ∀ u ∈ xs, u.oneCell' = true := by
  intro u hu
  obtain ⟨j, hj⟩ := List.mem_iff_getElem?.1 hu
  have hjl := lt_of_getq hj
  have hpos := hD.pos T
  have hdiv : j / D.size T < l.length := by rw [Nat.div_lt_iff_lt_mul hpos, ← h.1]; exact hjl
  obtain ⟨y, hy⟩ := getq hdiv
  have hrow := h.2 _ y hy
  have hm : ((xs.drop (j / D.size T * D.size T)).take (D.size T))[j % D.size T]? = some u := by
    rw [List.getElem?_take_of_lt (Nat.mod_lt _ hpos), List.getElem?_drop]
    have : j / D.size T * D.size T + j % D.size T = j := by rw [Nat.mul_comm]; exact Nat.div_add_mod j _
    rw [this]; exact hj
  obtain ⟨s, hs⟩ := getq (l := D.shape T y) (k := j % D.size T) (by rw [← hrow.1]; exact lt_of_getq hm)
  exact (hrow.2 _ u s hm hs).one
/-- What is appended: a nil slice, or a row that lies in the world. -/
def Src (D : Shp S) (σ : Hv) (w : World) (T : S.C) (v : Value) (l : List (S.car T)) : Prop :=
  ∃ a cap, v = .slice a l.length cap ∧ ((a = none ∧ l = []) ∨ ∃ ad ys, a = some ad ∧ Row w ad ys ∧ Els D σ T ys l)
theorem run_appS {t el : TypeId} {T : S.C} {i : TypeInfo} {z v yv : Value} {xs : List Value} {l l' : List (S.car T)} (hD : D.Ok) (hu : P.underlying t = some (.slice el)) (hi : P.info? el = some i) (hz : i.zero = some z) (hsz : i.size = D.size T) (hzl : z.cells.size = D.size T)
    (hb : i.bytes ≤ 32768) (hE : Els D σ T xs l) (hok : (vec v el (D.size T) l.length xs).ok w) (hs : Src D σ w T yv l') (hsm : Sml (l ++ l').length) {x y : Operand} {ts : Array TypeId} {r : Operand → Value} (hx : r x = v) (hy : r y = yv) (hts : ts = #[t, t]) {oo : Oper} (hoo : oo.op = .call ⟨.builtin .append, #[x, y], ts⟩) :
    ∃ v' w' xs', (execOp r oo).run P w = .ok (.value v') w' ∧ Els D σ T xs' (l ++ l') ∧ (vec v' el (D.size T) (l ++ l').length xs').ok w' ∧ Keeps v.ownBlock.toList w w' ∧ (∀ b, v'.ownBlock = some b → v.ownBlock = some b ∨ w.heap.size ≤ b) := by
  subst hts
  obtain ⟨a, cap, rfl, hs⟩ := hs
  have run : ∀ v' w', (Builtin.append_ #[t, t] oo.type #[v, .slice a l'.length cap]).run P w = .ok v' w' → (execOp r oo).run P w = .ok (.value v') w' := by
    intro v' w' h
    simp only [execOp, hoo, resolve, invoke, builtin, Sem.run_bind, Sem.run_pure, Result.andThen_ok, List.map_toArray, List.map_cons, List.map_nil, hx, hy, h]
  rcases hs with ⟨rfl, rfl⟩ | ⟨ad, ys, rfl, hrow, hE'⟩
  · have hr := run_append_empty (P := P) (w := w) 0 t oo.type el i (D.size T) cap hu hi v l.length xs hok
    refine ⟨v, w, xs, run _ _ hr, by simpa using hE, by simpa using hok, Keeps.refl _ _, fun b hb => .inl hb⟩
  · have hsm2 := sml_bytes hsm hb
    rw [List.length_append] at hsm2
    obtain ⟨v', w', hr, ho, hk, hf⟩ := run_app (P := P) (ty' := oo.type) (cc := cap) hu hi hz hsz rfl hzl (hD.pos T) hok hE'.1 hrow (els_ones hD hE') hsm2.1 hsm2.2
    exact ⟨v', w', xs ++ ys, run _ _ hr, els_append hE hE', by rw [List.length_append]; exact ho, hk, hf⟩
theorem own_src {T : S.C} {v : Value} {el : TypeId} {ys : List Value} {l : List (S.car T)} (hok : (vec v el (D.size T) l.length ys).ok w) (hE : Els D σ T ys l) : Src D σ w T v l := by
  rcases (vec_shape hok).2 with ⟨rfl, h0⟩ | ⟨g, cap, rfl, _⟩
  · have : l = [] := List.eq_nil_of_length_eq_zero h0
    subst this
    exact ⟨none, 0, rfl, .inl ⟨rfl, rfl⟩⟩
  · exact ⟨_, cap, rfl, .inr ⟨_, ys, rfl, vec_row hok, hE⟩⟩
theorem rd_src {T : S.C} {v : Value} {l : List (S.car T)} (hD : D.Ok) (hV : View σ w) (h : RepF D σ v (.sl T l)) : Src D σ w T v l := by
  obtain ⟨a, cap, hv, h⟩ := RSl.row (h.toRSl hD)
  rcases h with ⟨rfl, rfl⟩ | ⟨ad, xs, rfl, hl, hr, hR⟩
  · exact ⟨none, cap, hv, .inl ⟨rfl, rfl⟩⟩
  · exact ⟨some ad, cap, hv, .inr ⟨ad, xs, rfl, hr.row hV, hl, hR⟩⟩
theorem ownQ_ok {el : TypeId} {T : S.C} {s : SV S} {a : List Nat} {l : List (S.car T)} (h : ownQ el T ob s = some (a, l)) : (s = .f .nils ∧ a = [] ∧ l = []) ∨ ∃ o, s = .hnd o ∧ a = [o] ∧ ob o = some (.vec el T l) := by
  cases s with
  | f x =>
    cases x with
    | nils => cases h; exact .inl ⟨rfl, rfl, rfl⟩
    | _ => cases h
  | hnd o =>
    simp only [ownQ] at h
    split at h
    case h_2 => cases h
    rename_i e T' l0 hob
    cases hb : Nat.beq e el with
    | false => rw [hb] at h; cases h
    | true =>
      rw [hb] at h
      have hb := Nat.eq_of_beq_eq_true hb
      simp only [cond_true] at h
      split at h
      case h_2 => cases h
      rename_i he _
      cases h
      subst he hb
      exact .inr ⟨o, rfl, rfl, hob⟩
  | _ => cases h
theorem srcQ_ok {el : TypeId} {T : S.C} {s : SV S} {b : List Nat} {l : List (S.car T)} (h : srcQ el T ob s = some (b, l)) :
    (s = .f .nils ∧ b = [] ∧ l = []) ∨ (s = .f (.sl T l) ∧ b = []) ∨ (∃ o, s = .hnd o ∧ b = [o] ∧ ob o = some (.vec el T l)) ∨ ∃ o, s = .hnd o ∧ b = [] ∧ ob o = some (.frz T l) := by
  cases s with
  | f x =>
    cases x with
    | nils => cases h; exact .inl ⟨rfl, rfl, rfl⟩
    | sl T' l' =>
      simp only [srcQ] at h
      split at h
      case h_2 => cases h
      rename_i he _
      cases h
      subst he
      exact .inr (.inl ⟨rfl, rfl⟩)
    | _ => cases h
  | hnd o =>
    simp only [srcQ] at h
    split at h
    · rename_i e T' l0 hob
      cases hb : Nat.beq e el with
      | false => rw [hb] at h; cases h
      | true =>
        rw [hb] at h
        have hb := Nat.eq_of_beq_eq_true hb
        simp only [cond_true] at h
        split at h
        case h_2 => cases h
        rename_i he _
        cases h
        subst he hb
        exact .inr (.inr (.inl ⟨o, rfl, rfl, hob⟩))
    · rename_i T' l0 hob
      split at h
      case h_2 => cases h
      rename_i he _
      cases h
      subst he
      exact .inr (.inr (.inr ⟨o, rfl, rfl, hob⟩))
    · cases h
  | _ => cases h
theorem e_append {args : Array Operand} {ts : Array TypeId} (hP : D.OkP P) (hnx : ν nx = none) (k : Kn D ν σ n f w e ob lkc oh) (h : effOp P D e ob nx (.call ⟨.builtin .append, args, ts⟩) K) : EffOk P D ν σ w ob lkc nx (ev n f) (.call ⟨.builtin .append, args, ts⟩) K := by
  have hD := hP.ok
  simp only [effOp] at h
  split at h
  case h_2 => exact h.elim
  rename_i x y t t' ha ht
  have ha' : args = #[x, y] := by apply Array.ext'; simpa using ha
  have ht' : ts = #[t, t'] := by apply Array.ext'; simpa using ht
  obtain ⟨htt, h0⟩ := bif_f h
  clear h
  have htt := Nat.eq_of_beq_eq_true htt
  subst htt
  have h := h0
  clear h0
  split at h
  case h_2 => exact h.elim
  rename_i el hu
  split at h
  case h_2 => exact h.elim
  rename_i T i hcode hi
  obtain ⟨hc, h⟩ := bif_f h
  obtain ⟨hc, hbytes⟩ := and_b hc
  obtain ⟨hc, hz⟩ := and_b hc
  obtain ⟨hT, hsz⟩ := and_b hc
  have hbytes := Nat.le_of_ble_eq_true hbytes
  have hsz := Nat.eq_of_beq_eq_true hsz
  obtain ⟨z, hz⟩ := Option.isSome_iff_exists.1 hz
  have hzl : z.cells.size = D.size T := by rw [← Array.length_toList, (hP.zero _ _ _ _ hcode hi hz σ).1, hD.len]
  split at h
  case h_2 => exact h.elim
  rename_i a l b l' hown hsrc
  obtain ⟨hne, hsm, hfin⟩ := bif_f h
  clear h
  subst ha'
  have kx := k.e x
  have ky := k.e y
  have h47 : (l ++ l').length ≤ 140737488355328 := by unfold Sml at hsm; omega
  have hcase : (b = [] ∧ (View σ w → Src D σ w T (ev n f y) l')) ∨ ∃ o', e y = .hnd o' ∧ b = [o'] ∧ ob o' = some (.vec el T l') := by
    rcases srcQ_ok hsrc with ⟨hye, rfl, rfl⟩ | ⟨hye, rfl⟩ | ⟨o', hye, rfl, hob'⟩ | ⟨o', hye, rfl, hob'⟩
    · exact .inl ⟨rfl, fun _ => ⟨none, 0, rep_nils (hye ▸ ky), .inl ⟨rfl, rfl⟩⟩⟩
    · exact .inl ⟨rfl, fun hV => rd_src hD hV (rep_sl (hye ▸ ky))⟩
    · exact .inr ⟨o', hye, rfl, hob'⟩
    · refine .inl ⟨rfl, fun hV => ?_⟩
      obtain ⟨hR, _⟩ := k.o _ _ hob'
      obtain ⟨v', hν', _, hr⟩ := hR
      have hyv : ev n f y = v' := rep_hnd (hye ▸ ky) hν'
      rw [hyv]
      exact rd_src hD hV hr
  clear hsrc
  rcases ownQ_ok hown with ⟨hxe, rfl, rfl⟩ | ⟨o, hxe, rfl, hob⟩
  · -- a nil slice grows
    have hxv : ev n f x = .slice none 0 0 := rep_nils (hxe ▸ kx)
    have hnil : ∀ w : World, (vec (.slice none 0 0) el (D.size T) ([] : List (S.car T)).length []).ok w := fun w => World.ownsRow_nil w 0 el (D.size T)
    have hE0 : Els D σ T [] ([] : List (S.car T)) := ⟨by simp, fun i x hx => by simp at hx⟩
    rcases hcase with ⟨rfl, hs⟩ | ⟨o', hye, rfl, hob'⟩
    · refine ⟨_, _, _, [], hfin, rfl, List.nodup_nil, by simp, fun ins ho hS oo hoo => ?_⟩
      cases ins with
      | cons => exact ho.elim
      | nil =>
        obtain ⟨v', w', xs', hrun, hE', hok', hk, hf⟩ := run_appS (P := P) hD hu hi hz hsz hzl hbytes hE0 (hnil w) (hs hS.view) hsm hxv rfl ht' hoo
        exact ⟨w', σ, ν.add nx v', [vec v' el (D.size T) _ xs'], _, hrun, Nm.add_ext hnx, Nm.add_new, hS.add hk hok' (fun b hb => (hf b hb).resolve_left (by intro h; cases h)), ⟨⟨v', xs', Nm.add_self, rfl, hE', h47⟩, trivial⟩, ⟨v', rfl, .hnd nx v' Nm.add_self (vec_one hok')⟩⟩
    · refine ⟨_, _, _, [(o', .vec el T l')], hfin, rfl, by simp, by simpa using hob', fun ins ho hS oo hoo => ?_⟩
      match ins, ho with
      | [m], ho =>
        obtain ⟨vy, ys, hνy, hm, hEy, hly⟩ := ho.1
        subst hm
        have hs : Src D σ w T (ev n f y) l' := by
          have hyv : ev n f y = vy := rep_hnd (hye ▸ ky) hνy
          rw [hyv]
          exact own_src (hS.get (i := 0) rfl) hEy
        obtain ⟨v', w', xs', hrun, hE', hok', hk, hf⟩ := run_appS (P := P) hD hu hi hz hsz hzl hbytes hE0 (hnil w) hs hsm hxv rfl ht' hoo
        exact ⟨w', σ, ν.add nx v', [vec v' el (D.size T) _ xs', _], _, hrun, Nm.add_ext hnx, Nm.add_new, hS.add hk hok' (fun b hb => (hf b hb).resolve_left (by intro h; cases h)),
          ⟨⟨v', xs', Nm.add_self, rfl, hE', h47⟩, ⟨vy, ys, Nm.add_ext hnx _ _ hνy, rfl, hEy, hly⟩, trivial⟩, ⟨v', rfl, .hnd nx v' Nm.add_self (vec_one hok')⟩⟩
  · -- a list of the call's own grows
    rcases hcase with ⟨rfl, hs⟩ | ⟨o', hye, rfl, hob'⟩
    · refine ⟨_, _, _, [(o, .vec el T l)], hfin, rfl, by simp, by simpa using hob, fun ins ho hS oo hoo => ?_⟩
      match ins, ho with
      | [m], ho =>
        obtain ⟨vx, xs, hνx, hm, hEx, hlx⟩ := ho.1
        subst hm
        obtain ⟨v', w', xs', hrun, hE', hok', hk, hf⟩ := run_appS (P := P) hD hu hi hz hsz hzl hbytes hEx (hS.get (i := 0) rfl) (hs hS.view) hsm (rep_hnd (hxe ▸ kx) hνx) rfl ht' hoo
        exact ⟨w', σ, ν.add nx v', [vec v' el (D.size T) _ xs'], _, hrun, Nm.add_ext hnx, Nm.add_new, hS.step (i := 0) rfl hk hok' hf rfl hS.view.none_of_ge, ⟨⟨v', xs', Nm.add_self, rfl, hE', h47⟩, trivial⟩, ⟨v', rfl, .hnd nx v' Nm.add_self (vec_one hok')⟩⟩
    · have hoo' : o ≠ o' := by
        intro he
        subst he
        simp at hne
      refine ⟨_, _, _, [(o, .vec el T l), (o', .vec el T l')], hfin, rfl, by simpa using hoo', by simpa using ⟨hob, hob'⟩, fun ins ho hS oo hoo => ?_⟩
      match ins, ho with
      | [m, m'], ho =>
        obtain ⟨vx, xs, hνx, hm, hEx, hlx⟩ := ho.1
        obtain ⟨vy, ys, hνy, hm', hEy, hly⟩ := ho.2.1
        subst hm hm'
        have hs : Src D σ w T (ev n f y) l' := by
          have hyv : ev n f y = vy := rep_hnd (hye ▸ ky) hνy
          rw [hyv]
          exact own_src (hS.get (i := 1) rfl) hEy
        obtain ⟨v', w', xs', hrun, hE', hok', hk, hf⟩ := run_appS (P := P) hD hu hi hz hsz hzl hbytes hEx (hS.get (i := 0) rfl) hs hsm (rep_hnd (hxe ▸ kx) hνx) rfl ht' hoo
        exact ⟨w', σ, ν.add nx v', [vec v' el (D.size T) _ xs', _], _, hrun, Nm.add_ext hnx, Nm.add_new, hS.step (i := 0) rfl hk hok' hf rfl hS.view.none_of_ge,
          ⟨⟨v', xs', Nm.add_self, rfl, hE', h47⟩, ⟨vy, ys, Nm.add_ext hnx _ _ hνy, rfl, hEy, hly⟩, trivial⟩, ⟨v', rfl, .hnd nx v' Nm.add_self (vec_one hok')⟩⟩
/-- A part of a list of the call's own, from some place on: the list is frozen. -/
theorem e_sliceF {t : TypeId} {x lo : Operand} {hi : Option Operand} (hP : D.OkP P) (k : Kn D ν σ n f w e ob lkc oh) (h : effOp P D e ob nx (.slice t x (some lo) hi none) K) : EffOk P D ν σ w ob lkc nx (ev n f) (.slice t x (some lo) hi none) K := by
  have hD := hP.ok
  simp only [effOp] at h
  split at h
  case h_2 => exact h.elim
  rename_i el o hu hxe
  split at h
  case h_2 => exact h.elim
  rename_i ety T l hob
  obtain ⟨hc, h⟩ := bif_f h
  obtain ⟨hT, hsz⟩ := and_b hc
  have hsz := Nat.eq_of_beq_eq_true hsz
  split at h
  case h_2 => exact h.elim
  rename_i a b hlo hhi
  obtain ⟨⟨h0, h1, h2⟩, h⟩ := h
  have hlv := intQ_ok k hlo
  have hhv : (hi = none ∧ b = ((l.length : Nat) : Int)) ∨ ∃ r, hi = some r ∧ ev n f r = .int .i64 b := by
    cases hi with
    | none => exact .inl ⟨rfl, (Option.some.inj hhi).symm⟩
    | some r => exact .inr ⟨r, rfl, intQ_ok k hhi⟩
  refine ⟨_, _, _, [(o, .vec ety T l)], h, rfl, by simp, by simpa using hob, fun ins ho hS oo hoo => ?_⟩
  match ins, ho with
  | [m], ho =>
    obtain ⟨v, xs, hν, hm, hE, hl⟩ := ho.1
    subst hm
    have hxv := rep_hnd (hxe ▸ k.e x) hν
    obtain ⟨σ1, hS1, hs1, hrep⟩ := freeze_one (ms := []) hD hS hE hl
    have hR := hrep.toRSl hD
    obtain ⟨a', cap, hv, hcap, _⟩ := id hR
    rw [hv] at hR
    have hb : (Instr.sliceBounds true l.length cap (some (ev n f lo)) (hi.map (ev n f)) none).run P w = .ok (a.toNat, b.toNat, cap) w := by
      have e1 : b ≤ (cap : Int) := by omega
      have e2 : 0 ≤ b := by omega
      have e3 : max b 0 = b := by omega
      clear hR hv hrep hS1
      rcases hhv with ⟨rfl, rfl⟩ | ⟨r, rfl, hr⟩ <;> clear hhi hlo <;> simp_all [Instr.sliceBounds, Instr.sliceBound, asIntOf]
    have h3 := RSl.drop' (RSl.take hR b.toNat (by omega)) a.toNat (by simp only [List.length_take]; omega)
    have hrun : ∃ u, (execOp (ev n f) oo).run P w = .ok (.value u) w ∧ RSl (D.size T) (ElF D T) σ1 u ((l.take b.toNat).drop a.toNat) :=
      ⟨_, by simp [execOp, hoo, hxv, hv, Instr.sliceAt, run_underlying hu, Instr.slice, hb, run_szQ hT, hsz], h3⟩
    obtain ⟨u, hrun, h4⟩ := hrun
    exact ⟨w, σ1, ν, [triv], .value u, hrun, Ext.refl _, fun m u h => .inl h, hS1, ⟨⟨v, hν, rfl, hrep⟩, trivial⟩, ⟨u, rfl, .f (RepF.ofRSl hD h4)⟩⟩
/-- A whole array of the call's own as a list: the array is frozen, and its name is gone. -/
theorem resL_plain {f : Nat → SV S} : ∀ {l : List (SV S)} {i : Nat} {q : List (FV S) × List Nat}, toFs (fun _ => none) l = some q → resL f i l = l
  | [], _, _, _ => rfl
  | s :: l, i, q, h => by
    simp only [toFs] at h
    cases h1 : toF (fun _ => none) s with
    | none => rw [h1] at h; cases h
    | some a =>
      cases h2 : toFs (fun _ => none) l with
      | none => rw [h1, h2] at h; cases h
      | some b =>
        have := resL_plain (f := f) (i := i + 1) h2
        cases s <;> first | (simp only [resL, this]; done) | cases h1
theorem bldL_els (hD : D.Ok) {T : S.C} (h1 : D.size T = 1) : ∀ {xs : List (FV S)} {cs : List Value} {ys : List (S.car T)}, RowF D σ cs xs → bldL D T xs = some ys → Els D σ T cs ys
  | [], cs, ys, hr, hb => by
    cases hb
    have : cs = [] := List.eq_nil_of_length_eq_zero hr.1
    subst this
    exact ⟨by simp, fun i x hx => by cases hx⟩
  | x :: xs, cs, ys, hr, hb => by
    cases cs with
    | nil => have := hr.1; cases this
    | cons c cs =>
      simp only [bldL] at hb
      split at hb
      case h_2 => cases hb
      rename_i y ys' hy hys
      cases hb
      have ih := bldL_els hD h1 (cs := cs) (ys := ys') ⟨by have := hr.1; simpa using this, fun j v s hj hs => hr.2 (j + 1) v s (by simpa using hj) (by simpa using hs)⟩ hys
      refine ⟨by have := ih.1; rw [h1] at this ⊢; simp only [List.length_cons]; omega, fun i z hz => ?_⟩
      cases i with
      | zero =>
        cases hz
        rw [h1]
        exact hD.bld T [x] y σ [c] hy ⟨rfl, fun j v s hj hs => by
          cases j with
          | zero => cases hj; cases hs; exact hr.2 0 _ _ rfl rfl
          | succ j => cases hj⟩
      | succ i =>
        have := ih.2 i z (by simpa using hz)
        rw [h1] at this ⊢
        simpa using this
theorem e_sliceA {t : TypeId} {x : Operand} (hP : D.OkP P) (k : Kn D ν σ n f w e ob lkc oh) (h : effOp P D e ob nx (.slice t x none none none) K) : EffOk P D ν σ w ob lkc nx (ev n f) (.slice t x none none none) K := by
  have hD := hP.ok
  simp only [effOp] at h
  split at h
  case h_2 => exact h.elim
  rename_i N el o hu hxe
  split at h
  case h_2 => exact h.elim
  rename_i ty l T hob hcode
  obtain ⟨hc, h⟩ := bif_f h
  obtain ⟨hc, hN⟩ := and_b hc
  obtain ⟨hc, hlN⟩ := and_b hc
  obtain ⟨hc, hT⟩ := and_b hc
  obtain ⟨hs1, hsz⟩ := and_b hc
  have hs1 := Nat.eq_of_beq_eq_true hs1
  have hsz := Nat.eq_of_beq_eq_true hsz
  have hlN := Nat.eq_of_beq_eq_true hlN
  have hN := Nat.le_of_ble_eq_true hN
  obtain ⟨xs, hxs, h⟩ := optK_some h
  obtain ⟨ys, hys, h⟩ := optK_some h
  have hpl : toFs (fun _ => none) l = some (xs, []) := by
    simp only [plainL] at hxs
    split at hxs
    · rename_i hq; cases hxs; exact hq
    · cases hxs
  refine ⟨_, _, _, [(o, .cells ty l)], h, rfl, by simp, by simpa using hob, fun ins ho hS oo hoo => ?_⟩
  match ins, ho with
  | [m], ho =>
    obtain ⟨b, cs, hν, hm, hR⟩ := ho.1
    subst hm
    rw [resL_plain hpl] at hR
    have hxv : ev n f x = .pointer (some ⟨b, 0, none⟩) := by
      have hx := k.e x
      rw [hxe] at hx
      generalize ev n f x = vx at hx
      cases hx with
      | ref _ _ b' h' => rw [hν] at h'; cases h'; rfl
    have hF : RowF D σ cs xs := toFs_nil (oh := fun _ => triv) (lkc := lkc) hD (fun o a h => by cases h) hR hpl
    have hrow := blk_row (hS.get (i := 0) rfl)
    obtain ⟨σ1, hS1, hs, hfz⟩ := hS.freeze' (i := 0) rfl rfl
    have hE := (bldL_els hD hs1 hF hys).mono hs
    have hlen : ys.length = N := by have := hE.1; rw [hs1] at this; have := hR.1; omega
    have hrep : RSl (D.size T) (ElF D T) σ1 (.slice (some ⟨b, 0, none⟩) ys.length ys.length) ys := by
      refine ⟨some ⟨b, 0, none⟩, ys.length, rfl, Nat.le_refl _, by omega, fun i y hy => ⟨⟨b, 0, none⟩, (cs.drop (i * D.size T)).take (D.size T), rfl, ?_, ?_, hE.2 i y hy⟩⟩
      · rw [(hE.2 i y hy).1, hD.len]
      · refine VRow.part ?_ rfl
        intro j u hj
        have hc := hrow j u hj
        rw [addr_lit] at hc ⊢
        unfold Hv.cell
        rw [hfz b rfl]
        exact hc
    refine ⟨w, σ1, ν, [], .value (.slice (some ⟨b, 0, none⟩) N N), ?_, Ext.refl _, fun m u h => .inl h, hS1, trivial, ⟨_, rfl, .f (RepF.ofRSl hD (hlen ▸ hrep))⟩⟩
    simp [execOp, hoo, hxv, Instr.sliceAt, run_underlying hu, Instr.sureAddr, Instr.sliceBounds, run_szQ hT, hsz]
    exact fun _ => by rw [addr_lit]
/-- The first part of a list of the call's own. -/
theorem e_slice {t : TypeId} {x r : Operand} (hP : D.OkP P) (hnx : ν nx = none) (k : Kn D ν σ n f w e ob lkc oh) (h : effOp P D e ob nx (.slice t x none (some r) none) K) : EffOk P D ν σ w ob lkc nx (ev n f) (.slice t x none (some r) none) K := by
  have hD := hP.ok
  simp only [effOp] at h
  split at h
  case h_2 => exact h.elim
  rename_i el o i hu hxe hri
  split at h
  case h_2 => exact h.elim
  rename_i ety T l hob
  obtain ⟨hc, ⟨h0, h1⟩, h⟩ := bif_f h
  obtain ⟨hc, _⟩ := and_b hc
  obtain ⟨hT, hsz⟩ := and_b hc
  have hsz := Nat.eq_of_beq_eq_true hsz
  have hrv := intQ_ok k hri
  refine ⟨_, _, _, [(o, .vec ety T l)], h, rfl, by simp, by simpa using hob, fun ins ho hS oo hoo => ?_⟩
  match ins, ho with
  | [m], ho =>
    obtain ⟨v, xs, hν, hm, hE, hl⟩ := ho.1
    subst hm
    have hxv := rep_hnd (hxe ▸ k.e x) hν
    have hok := hS.get (i := 0) rfl
    obtain ⟨a, cap, hv, hcap⟩ := vec_anyc hok
    subst hv
    have hk : i.toNat ≤ l.length := by omega
    have hpos := hD.pos T
    have hrun : (execOp (ev n f) oo).run P w = .ok (.value (.slice a i.toNat cap)) w := by
      have e1 : i = ((i.toNat : Nat) : Int) := by omega
      have hb : (Instr.sliceBounds true l.length cap none (some (ev n f r)) none).run P w = .ok (0, i.toNat, cap) w := by
        have e2 : i ≤ (cap : Int) := by omega
        have e3 : max i 0 = i := by omega
        simp [Instr.sliceBounds, Instr.sliceBound, asIntOf, hrv, h0, e2]
      simp [execOp, hoo, hxv, Instr.sliceAt, run_underlying hu, Instr.slice, hb, run_szQ hT]
      cases a with
      | none => simp
      | some ad => simp [Addr.add]
    have htk : (vec (.slice a i.toNat cap) ety (D.size T) i.toNat (xs.take (i.toNat * D.size T))).ok w := vec_takev hok hk
    refine ⟨w, σ, ν.add nx (.slice a i.toNat cap), [vec (.slice a i.toNat cap) ety (D.size T) (l.take i.toNat).length (xs.take (i.toNat * D.size T))], _, hrun, Nm.add_ext hnx, Nm.add_new, ?_, ⟨⟨_, _, Nm.add_self, rfl, ?_, ?_⟩, trivial⟩, ⟨_, rfl, .hnd nx _ Nm.add_self rfl⟩⟩
    · have hlen : (l.take i.toNat).length = i.toNat := by rw [List.length_take]; omega
      rw [hlen]
      exact step1 hS (Keeps.refl _ _) htk (by cases a <;> rfl)
    · refine ⟨?_, fun j x hx => ?_⟩
      · rw [List.length_take, hE.1, List.length_take]
        have : i.toNat * D.size T ≤ l.length * D.size T := Nat.mul_le_mul_right _ hk
        rw [Nat.min_eq_left this, Nat.min_eq_left hk]
      · rw [List.getElem?_take] at hx
        split at hx
        case isFalse => cases hx
        rename_i hj
        have := hE.2 j x hx
        have h3 : (j + 1) * D.size T ≤ i.toNat * D.size T := Nat.mul_le_mul_right _ hj
        rw [Nat.add_mul, Nat.one_mul] at h3
        have e : ((xs.take (i.toNat * D.size T)).drop (j * D.size T)).take (D.size T) = (xs.drop (j * D.size T)).take (D.size T) := by
          rw [List.drop_take, List.take_take, Nat.min_eq_left (by omega)]
        rw [e]; exact this
    · rw [List.length_take]; omega
theorem e_range {t : TypeId} {x : Operand} (hP : D.OkP P) (hnx : ν nx = none) (k : Kn D ν σ n f w e ob lkc oh) (h : effOp P D e ob nx (.range t x) K) : EffOk P D ν σ w ob lkc nx (ev n f) (.range t x) K := by
  simp only [effOp] at h
  split at h
  case h_3 => exact h.elim
  case h_2 =>
    rename_i s hmc hx
    split at h
    case h_2 => exact h.elim
    rename_i hu
    have hxv : ev n f x = .string s := by
      have hx' := k.e x
      rw [hx] at hx'
      generalize ev n f x = u at hx'
      cases hx' with
      | f h' => cases h'; rfl
    refine ⟨_, _, _, [], h, rfl, List.nodup_nil, by simp, fun ins ho hS oo hoo => ?_⟩
    cases ins with
    | cons => exact ho.elim
    | nil =>
      exact ⟨w.alloc (.stringIter s 0), σ, ν.add nx (.pointer (some ⟨w.heap.size, 0, none⟩)), [sitr w.heap.size s 0], .value (.pointer (some ⟨w.heap.size, 0, none⟩)), by simp [execOp, hoo, hxv, Instr.range, Sem.run_bind, run_underlying hu], Nm.add_ext hnx, Nm.add_new,
        hS.add (alloc_keeps w _) (heap_alloc_new _ _) (by rintro k ⟨⟩; exact Nat.le_refl _), ⟨⟨_, Nm.add_self, rfl⟩, trivial⟩, ⟨_, rfl, .ref nx 0 _ Nm.add_self⟩⟩
  rename_i Kc V o hmc hx
  obtain ⟨kt, et, hu, hK, hkey, _⟩ := hP.map _ _ _ hmc
  split at h
  case h_2 => exact h.elim
  rename_i K' V' F hob
  obtain ⟨e1, e2, h⟩ := withMap_ok h
  subst e1 e2
  -- the keys, by what the object is now
  obtain ⟨⟨b, mm, hν, hh, hF⟩, hok⟩ := k.o o _ hob
  rw [hh] at hok
  obtain ⟨es, clock, k1, k2, k3, k4⟩ := hok
  obtain ⟨ks, hn, hks⟩ := keysK k2 k4.1 hK.inj
  have hks' : Keys F ks := ⟨hn, fun q => by rw [hks q, k3 q, ORel.isSome (hF q)]⟩
  have hxv : ev n f x = .map (some b) := rep_hnd (hx ▸ k.e x) hν
  refine ⟨_, _, _, [(o, .map K' V' F)], h ks hks', rfl, by simp, by simpa using hob, fun ins ho hS oo hoo => ?_⟩
  match ins, ho with
  | [mo], ho =>
    obtain ⟨b', mm', hν', hmo, hF'⟩ := ho.1
    rw [hν] at hν'
    cases hν'
    subst hmo
    obtain ⟨es', clock', j1, j2, j3, j4⟩ := hS.get (i := 0) rfl
    obtain ⟨σ1, hS1, hs1, hb1⟩ := hS.freeze' (i := 0) rfl rfl
    have hb2 : σ1 b = some (.map es' clock') := (hb1 b rfl).trans j1
    refine ⟨w.alloc (.mapIter (some b) clock' #[] clock'), σ1, ν.add nx (.pointer (some ⟨w.heap.size, 0, none⟩)), _, .value (.pointer (some ⟨w.heap.size, 0, none⟩)), ?_, Nm.add_ext hnx, Nm.add_new,
      hS1.add (o := itrK (kenc D K') w.heap.size b es' clock' [] none) (alloc_keeps w _) ⟨#[], heap_alloc_new _ _, by simp, by simp⟩ (by rintro k ⟨⟩; exact Nat.le_refl _),
      ⟨⟨w.heap.size, b, es', clock', none, Nm.add_self, rfl, hb2, j2, j4, fun q => ?_, hkey, hK.inj, by simp⟩, trivial⟩, ⟨_, rfl, .ref nx 0 _ Nm.add_self⟩⟩
    · simp [execOp, hoo, hxv, Instr.range, Sem.run_bind, run_underlying hu, MapKept.run_getObj_map j1]
    · rw [j3 q]
      exact (hF' q).imp fun v y h => h.mono hs1
theorem e_next {x : Operand} (k : Kn D ν σ n f w e ob lkc oh) (h : effOp P D e ob nx (.next x false) K) (hV : View σ w) : EffOk P D ν σ w ob lkc nx (ev n f) (.next x false) K := by
  simp only [effOp] at h
  split at h
  case h_2 => exact h.elim
  rename_i o hx
  split at h
  case h_2 => exact h.elim
  rename_i Kc V F done cur hob
  obtain ⟨⟨r, b, es, clock, cv, hν, hh, hb, hK, hM, hF, hkey, hinj, _⟩, hok⟩ := k.o o _ hob
  rw [hh] at hok
  have hxv : ev n f x = .pointer (some ⟨r, 0, none⟩) := by
    have hx' := k.e x
    rw [hx] at hx'
    generalize ev n f x = u at hx'
    cases hx' with
    | ref _ _ b' h' => rw [hν] at h'; cases h'; rfl
  have same : ∀ m, ORep D ν σ lkc o (.iter Kc V F done cur) m → m.ok w → ∃ cv', m = itrK (kenc D Kc) r b es clock done cv' := by
    rintro m ⟨r', b', es', clock', cv', hν', hm, hb', _⟩ hmo
    rw [hν] at hν'
    cases hν'
    subst hm
    obtain ⟨s1, a1, _⟩ := hok
    obtain ⟨s2, a2, _⟩ := hmo
    rw [a1] at a2
    cases a2
    rw [hb] at hb'
    cases hb'
    exact ⟨cv', rfl⟩
  rcases run_nextK (P := P) (ty := 0) hok (hV _ _ hb) hK hM with ⟨h1, h2⟩ | ⟨ky, v, w1, h1, h2, h3, h4, h5⟩
  · have hall : AllIn F done := fun q hq => by
      rw [← ORel.isSome (hF q)] at hq
      obtain ⟨v, hv⟩ := Option.isSome_iff_exists.1 hq
      obtain ⟨k', hk', he⟩ := h1 q v hv
      rw [hinj _ _ he]; exact hk'
    refine ⟨_, _, _, [(o, .iter Kc V F done cur)], h.1 hall, rfl, by simp, by simpa using hob, fun ins ho hS oo hoo => ?_⟩
    match ins, ho with
    | [mo], ho =>
      obtain ⟨cv', rfl⟩ := same mo ho.1 (hS.get (i := 0) rfl)
      refine ⟨w, σ, ν, _, .value (.tuple #[.bool false]), ?_, Ext.refl ν, fun m u hu => .inl hu, hS, ⟨⟨r, b, es, clock, cv', hν, rfl, hb, hK, hM, hF, hkey, hinj, by simp⟩, trivial⟩, ⟨_, rfl, .tup [.bool false] _ rfl fun j u s hj hs => ?_⟩⟩
      · have h2' : (Instr.next (.pointer (some ⟨r, 0, none⟩)) false oo.type).run P w = .ok (.tuple #[.bool false]) w := h2
        simp only [execOp, hoo, hxv, Sem.run_bind, h2', Result.andThen_ok]; rfl
      · match j with
        | 0 => cases hj; cases hs; exact .lit false
        | j + 1 => cases hj
  · have hFk := hF ky
    rw [h1] at hFk
    cases hq : F ky with
    | none => rw [hq] at hFk; exact hFk.elim
    | some y =>
      rw [hq] at hFk
      refine ⟨_, _, _, [(o, .iter Kc V F done cur)], h.2 ky y hq h2, rfl, by simp, by simpa using hob, fun ins ho hS oo hoo => ?_⟩
      match ins, ho with
      | [mo], ho =>
        obtain ⟨cv', rfl⟩ := same mo ho.1 (hS.get (i := 0) rfl)
        refine ⟨w1, σ, ν, _, .value (.tuple #[.bool true, kenc D Kc ky, v]), ?_, Ext.refl ν, fun m u hu => .inl hu, step1 hS h4 h5 rfl, ⟨⟨r, b, es, clock, some (ky, v), hν, rfl, hb, hK, hM, hF, hkey, hinj, fun k' y' hk' => ?_⟩, trivial⟩, ⟨_, rfl, .tup [.bool true, kenc D Kc ky, v] _ rfl fun j u s hj hs => ?_⟩⟩
        · have h3' : (Instr.next (.pointer (some ⟨r, 0, none⟩)) false oo.type).run P w = .ok (.tuple #[.bool true, kenc D Kc ky, v]) w1 := h3
          simp only [execOp, hoo, hxv, Sem.run_bind, h3', Result.andThen_ok]; rfl
        · cases hk'; exact ⟨v, rfl, hFk⟩
        · obtain ⟨cs, hcs, hv⟩ := hFk
          match j with
          | 0 => cases hj; cases hs; exact .lit true
          | 1 => cases hj; cases hs; exact svOf_ok (key_row (hkey ky))
          | 2 => cases hj; cases hs; rw [hv]; exact svOf_ok hcs
          | j + 3 => cases hj
theorem iterAt_keeps {w : World} {r : Nat} {s : ByteArray} {pos : Nat} : Keeps [r] w (w.iterAt r s pos) :=
  ⟨rfl, rfl, rfl, by simp [World.iterAt], fun j hj hm => by
    show (w.heap.setIfInBounds r _)[j]? = _
    rw [Array.getElem?_setIfInBounds, if_neg (by intro e; exact hm (by simp [e]))]⟩
theorem e_nextS {x : Operand} (k : Kn D ν σ n f w e ob lkc oh) (h : effOp P D e ob nx (.next x true) K) : EffOk P D ν σ w ob lkc nx (ev n f) (.next x true) K := by
  simp only [effOp] at h
  split at h
  case h_2 => exact h.elim
  rename_i o hx
  split at h
  case h_2 => exact h.elim
  rename_i s pos hob
  obtain ⟨⟨r, hν, hh⟩, hok⟩ := k.o o _ hob
  rw [hh] at hok
  have hok : w.heap[r]? = some (.stringIter s pos) := hok
  have hxv : ev n f x = .pointer (some ⟨r, 0, none⟩) := by
    have hx' := k.e x
    rw [hx] at hx'
    generalize ev n f x = u at hx'
    cases hx' with
    | ref _ _ b' h' => rw [hν] at h'; cases h'; rfl
  have same : ∀ m, ORep D ν σ lkc o (.siter s pos) m → m = sitr r s pos := by
    rintro m ⟨r', hν', hm⟩
    rw [hν] at hν'
    cases hν'
    exact hm
  rcases Classical.em (pos < s.size) with hlt | hlt
  · refine ⟨_, _, _, [(o, .siter s pos)], h.1 hlt, rfl, by simp, by simpa using hob, fun ins ho hS oo hoo => ?_⟩
    match ins, ho with
    | [mo], ho =>
      have := same mo ho.1
      subst this
      have hlt' : r < w.heap.size := (Array.getElem?_eq_some_iff.1 hok).1
      refine ⟨w.iterAt r s (pos + (Utf8.decode s pos).2), σ, ν, [sitr r s (pos + (Utf8.decode s pos).2)], .value (.tuple #[.bool true, .int .i64 pos, .int .i32 (Utf8.decode s pos).1]), ?_, Ext.refl ν, fun m u hu => .inl hu,
        step1 hS iterAt_keeps ?_ rfl, ⟨⟨r, hν, rfl⟩, trivial⟩, ⟨_, rfl, .tup [.bool true, .int .i64 pos, .int .i32 (Utf8.decode s pos).1] _ rfl fun j u s hj hs => ?_⟩⟩
      · have h3' : (Instr.next (.pointer (some ⟨r, 0, none⟩)) true oo.type).run P w = _ := Go.Lib.run_next_any_at w r s pos oo.type hok hlt
        simp only [execOp, hoo, hxv, Sem.run_bind, h3', Result.andThen_ok]; rfl
      · show (w.heap.setIfInBounds r _)[r]? = _
        rw [Array.getElem?_setIfInBounds, if_pos rfl, if_pos hlt']
      · match j with
        | 0 => cases hj; cases hs; exact .lit true
        | 1 => cases hj; cases hs; exact .f (.int _ _)
        | 2 => cases hj; cases hs; exact .f (.int _ _)
        | j + 3 => cases hj
  · refine ⟨_, _, _, [(o, .siter s pos)], h.2 hlt, rfl, by simp, by simpa using hob, fun ins ho hS oo hoo => ?_⟩
    match ins, ho with
    | [mo], ho =>
      have := same mo ho.1
      subst this
      refine ⟨w, σ, ν, [sitr r s pos], .value (.tuple #[.bool false]), ?_, Ext.refl ν, fun m u hu => .inl hu, hS, ⟨⟨r, hν, rfl⟩, trivial⟩, ⟨_, rfl, .tup [.bool false] _ rfl fun j u s hj hs => ?_⟩⟩
      · have h3' : (Instr.next (.pointer (some ⟨r, 0, none⟩)) true oo.type).run P w = _ := Go.Lib.run_next_end_at w r s pos oo.type hok hlt
        simp only [execOp, hoo, hxv, Sem.run_bind, h3', Result.andThen_ok]; rfl
      · match j with
        | 0 => cases hj; cases hs; exact .lit false
        | j + 1 => cases hj
theorem eff_ok {o : Op} (hP : D.OkP P) (hnx : ν nx = none) (hV : View σ w) (k : Kn D ν σ n f w e ob lkc oh) (h : effOp P D e ob nx o K) : EffOk P D ν σ w ob lkc nx (ev n f) o K := by
  unfold effOp at h
  split at h
  · exact e_alloc (e := e) (f := f) hP hnx h
  · exact e_box hnx k h
  · exact e_store hP k h
  · exact e_makeMap (e := e) (f := f) hnx h
  · exact e_mapUpdate hP k h
  · exact e_buildSlice hP hnx k h
  · exact e_makeSlice hP hnx k h
  · exact e_append hP hnx k h
  · exact e_slice hP hnx k h
  · exact e_sliceA hP k h
  · exact e_sliceF hP k h
  · exact e_range hP hnx k h
  · exact e_next k h hV
  · exact e_nextS k h
  · exact h.elim
end Go.Fx
end
section
namespace Go.Fx
open Go Go.RowKit Go.Fl Go.Fl.Lk
variable {S : Sig}
/-- What is handed to a call and comes back: a value with the objects that hang on it. -/
inductive Tr (S : Sig) : Type where
  | f (x : FV S)
  | same
  | vec (e : TypeId) (T : S.C) (l : List (S.car T))
  | arr (T : S.C) (N : Nat) (l : List (S.car T))
  | map (K V : S.C) (F : S.car K → Option (S.car V))
  | ptr (ty : TypeId) (l : List (Tr S))
  | agg (l : List (Tr S))
  | el (T : S.C) (x : S.car T)
/-- How an argument is handed over. -/
inductive PK (S : Sig) : Type where
  | v
  | c
  | sl (T : S.C)
  | el (T : S.C)
  | own (e : TypeId) (T : S.C)
  | map (K V : S.C)
  | ptr (ty : TypeId) (l : List (PK S))
  | agg (l : List (PK S))
structure Con (S : Sig) where
  pk : List (PK S)
  m : List (Tr S) → (List (Tr S) → List (Tr S) → Prop) → Prop
/-- A part of a state that ways or rounds change. -/
inductive Kd (S : Sig) : Type where
  | int (k : IntKind)
  | bool
  | str
  | sl (T : S.C)
  | own (e : TypeId) (T : S.C)
  | el (T : S.C)
  | map (K V : S.C)
  | arr (ty : TypeId) (T : S.C) (N : Nat)
  | iter (K V : S.C)
  | siter
abbrev Kd.ty : Kd S → Type
  | .int _ => Int
  | .bool => Bool
  | .str => ByteArray
  | .sl T => List (S.car T)
  | .own _ T => List (S.car T)
  | .el T => S.car T
  | .map K V => S.car K → Option (S.car V)
  | .arr _ T _ => List (S.car T)
  | .iter K V => (S.car K → Option (S.car V)) × List (S.car K)
  | .siter => ByteArray × Nat
inductive Pl where
  | slot (j : Nat)
  | cell (o i : Nat)
  | obj (o : Nat)
abbrev Item (S : Sig) := Pl × Kd S
abbrev HL : List (Item S) → Type
  | [] => Unit
  | i :: l => i.2.ty × HL l
structure Spec (S : Sig) where
  lock : List Nat
  robj : List Nat
  cobj : List (Nat × TypeId × Nat)
  items : List (Item S)
/-- What a walk is given. -/
structure Ev (S : Sig) where
  P : Program
  D : Shp S
  con : Nat → Option (Con S)
  inl : Nat → Bool
  plan : Nat → Option (Spec S)
  base : Nat := 0
def Ev.at (E : Ev S) (b : Nat) : Ev S := { E with base := b }
def slotS (ro : Ro S) (st : AS S) (t : Nat) : SV S := bif hasN ro.lock t then ro.slots t else st.slots t
def obS (ro : Ro S) (st : AS S) (o : Nat) : Option (AO S) :=
  match findN st.objs o with
  | some a => some a
  | none => findN ro.objs o
def evS (n : Nat) (ro : Ro S) (st : AS S) : Operand → SV S
  | .tmp t => bif Nat.blt t n then slotS ro st t else .und
  | .const v => ofConst v
  | .global g => ro.glob g
  | .func k => .fn k [] []
/-- Looked at, and kept. -/
def forceS (s : SV S) (k : SV S → Prop) : Prop :=
  match s with
  | .f x => k (.f x)
  | .lit b => k (.lit b)
  | .pb p d n => k (.pb p d n)
  | .agg l => k (.agg l)
  | .tup l => k (.tup l)
  | .hnd o => k (.hnd o)
  | .ref o i => k (.ref o i)
  | s => k s
theorem forceS_eq {s : SV S} {k : SV S → Prop} : forceS s k = k s := by cases s <;> rfl
def forceSs : List (SV S) → (List (SV S) → Prop) → Prop
  | [], k => k []
  | s :: l, k => forceS s fun s => forceSs l fun l => k (s :: l)
theorem forceSs_eq : ∀ {l : List (SV S)} {k : List (SV S) → Prop}, forceSs l k = k l
  | [], _ => rfl
  | s :: l, k => by unfold forceSs; rw [forceS_eq, forceSs_eq]
def forceA (a : AO S) (k : AO S → Prop) : Prop :=
  match a with
  | .cells ty l => forceSs l fun l => k (.cells ty l)
  | .vec e T l => k (.vec e T l)
  | .frz T l => k (.frz T l)
  | .map K V F => k (.map K V F)
  | a => k a
theorem forceA_eq {a : AO S} {k : AO S → Prop} : forceA a k = k a := by
  cases a <;> simp only [forceA, forceSs_eq]
def forceO : List (Nat × AO S) → (List (Nat × AO S) → Prop) → Prop
  | [], k => k []
  | (n, a) :: l, k => forceA a fun a => forceO l fun l => k ((n, a) :: l)
theorem forceO_eq : ∀ {l : List (Nat × AO S)} {k : List (Nat × AO S) → Prop}, forceO l k = k l
  | [], _ => rfl
  | (_, _) :: l, _ => by unfold forceO; rw [forceA_eq, forceO_eq]
def putS (ro : Ro S) (st : AS S) (d : Option Nat) (s : SV S) (k : AS S → Prop) : Prop :=
  match d with
  | some d => bif hasN ro.lock d then False else forceS s fun s => k { st with slots := updS st.slots d s }
  | none => k st
def inRw (st : AS S) : List Nat → Bool
  | [] => true
  | o :: l => (findN st.objs o).isSome && inRw st l
/-! Calls. -/
/-- A value that stays: one without memory of the call's own. -/
def toC : SV S → Option (FV S)
  | .f x => some x
  | .lit b => some (.bool b)
  | .pb p d false => some (.bool (@decide p d))
  | .pb p d true => some (.bool (!@decide p d))
  | _ => none
def gathV (ob : Nat → Option (AO S)) : SV S → Option (Tr S × List Nat × List Nat)
  | .agg l => match toFs ob l with
    | some (xs, b) => some (.agg (xs.map Tr.f), [], b)
    | none => none
  | .arr T N l => some (.arr T N l, [], [])
  | s => match toF ob s with
    | some (x, b) => some (.f x, [], b)
    | none => none
/-- A list that is handed over to be read. -/
def gathS (ob : Nat → Option (AO S)) (T : S.C) (s : SV S) : Option (Tr S × List Nat × List Nat) :=
  match s with
  | .f .nils => some (.f (.sl T []), [], [])
  | s => match toF ob s with
    | some (.sl T' l, b) => (match S.dec T' T with
      | isTrue h => some (.f (.sl T (h ▸ l)), [], b)
      | isFalse _ => none)
    | _ => none
/-- A struct that is handed over. -/
def gathE (D : Shp S) (ob : Nat → Option (AO S)) (T : S.C) (s : SV S) : Option (Tr S × List Nat × List Nat) :=
  match s with
  | .agg l => (match toFs ob l with
    | some (xs, b) => (match D.bld T xs with
      | some x => some (.el T x, [], b)
      | none => none)
    | none => none)
  | _ => none
mutual
def gath (D : Shp S) (ob : Nat → Option (AO S)) (lkc : Nat → Nat → SV S) : PK S → SV S → Option (Tr S × List Nat × List Nat)
  | .v, s => gathV ob s
  | .sl T, s => gathS ob T s
  | .el T, s => gathE D ob T s
  | .c, s => (toC s).map fun x => (.f x, [], [])
  | .own e T, s => match ownQ e T ob s with
    | some (a, l) => some (.vec e T l, a, [])
    | none => none
  | .map K V, s => match s with
    | .hnd o => match ob o with
      | some (.map K' V' F) => match S.dec K' K, S.dec V' V with
        | isTrue h, isTrue h' => some (.map K V (h ▸ h' ▸ F), [o], [])
        | _, _ => none
      | _ => none
    | _ => none
  | .ptr ty pk, s => match s with
    | .ref o 0 => match ob o with
      | some (.cells ty' l) => bif Nat.beq ty ty' then (match gaths D ob lkc pk (resL (lkc o) 0 l) with
        | some (ts, a, b) => some (.ptr ty ts, o :: a, b)
        | none => none) else none
      | _ => none
    | _ => none
  | .agg pk, s => match s with
    | .agg l => match gaths D ob lkc pk l with
      | some (ts, a, b) => some (.agg ts, a, b)
      | none => none
    | _ => none
def gaths (D : Shp S) (ob : Nat → Option (AO S)) (lkc : Nat → Nat → SV S) : List (PK S) → List (SV S) → Option (List (Tr S) × List Nat × List Nat)
  | [], [] => some ([], [], [])
  | p :: pk, s :: l => match gath D ob lkc p s, gaths D ob lkc pk l with
    | some (t, a, b), some (ts, a', b') => some (t :: ts, a ++ a', b ++ b')
    | _, _ => none
  | _, _ => none
end
/-! What comes back through the arguments: the parts that stay are left out. 'os' is what there was first. -/
mutual
def back (ob os : Nat → Option (AO S)) (lkc : Nat → Nat → SV S) : PK S → SV S → SV S → SV S → Option (Tr S × List Nat × List Nat)
  | .v, _, _, s => gathV ob s
  | .sl T, _, _, s => gathS ob T s
  | .el _, _, _, _ => none
  | .c, i, o, _ => match i, o with
    | .f _, .lk => some (.same, [], [])
    | _, _ => none
  | .own e T, _, _, s => match ownQ e T ob s with
    | some (a, l) => some (.vec e T l, a, [])
    | none => none
  | .map K V, i, _, s => match i, s with
    | .hnd o', .hnd o => bif Nat.beq o' o then (match ob o with
      | some (.map K' V' F) => match S.dec K' K, S.dec V' V with
        | isTrue h, isTrue h' => some (.map K V (h ▸ h' ▸ F), [o], [])
        | _, _ => none
      | _ => none) else none
    | _, _ => none
  | .ptr ty pk, i, _, s => match i, s with
    | .ref o' 0, .ref o 0 => bif Nat.beq o' o then (match os o, ob o with
      | some (.cells _ l0), some (.cells ty' l) => bif Nat.beq ty ty' then (match backs ob os lkc pk l0 l (resL (lkc o) 0 l) with
        | some (ts, a, b) => some (.ptr ty ts, o :: a, b)
        | none => none) else none
      | _, _ => none) else none
    | _, _ => none
  | .agg _, _, _, _ => none
def backs (ob os : Nat → Option (AO S)) (lkc : Nat → Nat → SV S) : List (PK S) → List (SV S) → List (SV S) → List (SV S) → Option (List (Tr S) × List Nat × List Nat)
  | [], [], [], [] => some ([], [], [])
  | p :: pk, i :: is, o :: l, s :: l' => match back ob os lkc p i o s, backs ob os lkc pk is l l' with
    | some (t, a, b), some (ts, a', b') => some (t :: ts, a ++ a', b ++ b')
    | _, _ => none
  | _, _, _, _ => none
end
/-- Which arguments come back. -/
def backT (ob os : Nat → Option (AO S)) (lkc : Nat → Nat → SV S) : List (PK S) → List (SV S) → Option (List (Tr S) × List Nat × List Nat)
  | [], [] => some ([], [], [])
  | .map K V :: pk, s :: l => match back ob os lkc (.map K V) s .dead s, backT ob os lkc pk l with
    | some (t, a, b), some (ts, a', b') => some (t :: ts, a ++ a', b ++ b')
    | _, _ => none
  | .ptr ty k :: pk, s :: l => match back ob os lkc (.ptr ty k) s .dead s, backT ob os lkc pk l with
    | some (t, a, b), some (ts, a', b') => some (t :: ts, a ++ a', b ++ b')
    | _, _ => none
  | _ :: pk, _ :: l => match backT ob os lkc pk l with
    | some (ts, a, b) => some (.same :: ts, a, b)
    | none => none
  | _, _ => none
/-! What is handed over becomes part of a state, under new names. -/
mutual
def inst (D : Shp S) : Tr S → Nat → Option (SV S × List (Nat × AO S) × Nat)
  | .f x, nx => some (.f x, [], nx)
  | .same, _ => none
  | .vec e T l, nx => some (.hnd nx, [(nx, .vec e T l)], nx + 1)
  | .arr T N l, nx => some (.arr T N l, [], nx)
  | .map K V F, nx => some (.hnd nx, [(nx, .map K V F)], nx + 1)
  | .ptr ty ts, nx => match insts D ts (nx + 1) with
    | some (cs, os, nx') => some (.ref nx 0, (nx, .cells ty cs) :: os, nx')
    | none => none
  | .el T x, nx => some (.agg ((D.shape T x).map SV.f), [], nx)
  | .agg ts, nx => match insts D ts nx with
    | some (cs, os, nx') => some (.agg cs, os, nx')
    | none => none
def insts (D : Shp S) : List (Tr S) → Nat → Option (List (SV S) × List (Nat × AO S) × Nat)
  | [], nx => some ([], [], nx)
  | t :: ts, nx => match inst D t nx with
    | some (s, a, nx') => match insts D ts nx' with
      | some (r, b, nx'') => some (s :: r, a ++ b, nx'')
      | none => none
    | none => none
end
/-! What comes back from a call: what was handed in keeps its name. -/
mutual
def upd1 (ob : Nat → Option (AO S)) (lkc : Nat → Nat → SV S) : PK S → SV S → SV S → Tr S → Nat → Option (SV S × List (Nat × AO S) × Nat)
  | .c, o, s, t, nx => match t with
    | .same => match o with
      | .lk => some (.lk, [], nx)
      | _ => (toC s).map fun x => (.f x, [], nx)
    | _ => none
  | .v, o, _, t, nx => match o, t with
    | .lk, _ => none
    | _, .f x => some (.f x, [], nx)
    | _, _ => none
  | .sl _, o, _, t, nx => match o, t with
    | .lk, _ => none
    | _, .f x => some (.f x, [], nx)
    | _, _ => none
  | .el _, _, _, _, _ => none
  | .own _ _, o, _, t, nx => match o, t with
    | .lk, _ => none
    | _, .vec e T l => some (.hnd nx, [(nx, .vec e T l)], nx + 1)
    | _, _ => none
  | .map _ _, o, s, t, nx => match s, t with
    | .hnd n, .map K V F => some (match o with | .lk => .lk | _ => .hnd n, [(n, .map K V F)], nx)
    | _, _ => none
  | .ptr _ pk, o, s, t, nx => match s, t with
    | .ref n 0, .ptr ty ts => match ob n with
      | some (.cells _ l) => match upds ob lkc pk l (resL (lkc n) 0 l) ts nx with
        | some (cs, os, nx') => some (match o with | .lk => .lk | _ => .ref n 0, (n, .cells ty cs) :: os, nx')
        | none => none
      | _ => none
    | _, _ => none
  | .agg _, _, _, _, _ => none
def upds (ob : Nat → Option (AO S)) (lkc : Nat → Nat → SV S) : List (PK S) → List (SV S) → List (SV S) → List (Tr S) → Nat → Option (List (SV S) × List (Nat × AO S) × Nat)
  | [], [], [], [], nx => some ([], [], nx)
  | p :: pk, o :: l, s :: l', t :: ts, nx => match upd1 ob lkc p o s t nx with
    | some (s, a, nx') => match upds ob lkc pk l l' ts nx' with
      | some (r, b, nx'') => some (s :: r, a ++ b, nx'')
      | none => none
    | none => none
  | _, _, _, _, _ => none
end
/-- The arguments that come back. -/
def updT (ob : Nat → Option (AO S)) (lkc : Nat → Nat → SV S) : List (PK S) → List (SV S) → List (Tr S) → Nat → Option (List (Nat × AO S) × Nat)
  | [], [], [], nx => some ([], nx)
  | .map K V :: pk, s :: l, t :: ts, nx => match upd1 ob lkc (.map K V) s s t nx with
    | some (_, a, nx') => match updT ob lkc pk l ts nx' with
      | some (b, nx'') => some (a ++ b, nx'')
      | none => none
    | none => none
  | .ptr ty k :: pk, s :: l, t :: ts, nx => match upd1 ob lkc (.ptr ty k) s s t nx with
    | some (_, a, nx') => match updT ob lkc pk l ts nx' with
      | some (b, nx'') => some (a ++ b, nx'')
      | none => none
    | none => none
  | .own _ _ :: pk, s :: l, t :: ts, nx => match t with
    | .same => updT ob lkc pk l ts nx
    | .vec e T l' => (match s with
      | .hnd o => (match updT ob lkc pk l ts nx with
        | some (b, nx'') => some ((o, .vec e T l') :: b, nx'')
        | none => none)
      | _ => none)
    | _ => none
  | _ :: pk, _ :: l, t :: ts, nx => match t with
    | .same => updT ob lkc pk l ts nx
    | _ => none
  | _, _, _, _ => none
def tupS : List (SV S) → SV S
  | [s] => s
  | l => .tup l
/-! Lists that were handed over to be read only, to a call that gives nothing that hangs on memory: they are the caller's own again. -/
def flatV : FV S → Bool
  | .sl _ _ => false
  | _ => true
mutual
def flatT (D : Shp S) : Tr S → Bool
  | .f x => flatV x
  | .same => false
  | .vec _ T _ => D.flat T
  | .arr T _ _ => D.flat T
  | .map K V _ => D.flat K && D.flat V
  | .ptr _ l => flatTs D l
  | .agg l => flatTs D l
  | .el T _ => D.flat T
def flatTs (D : Shp S) : List (Tr S) → Bool
  | [] => true
  | t :: l => flatT D t && flatTs D l
end
def flatOs (D : Shp S) : List (Tr S) → Bool
  | [] => true
  | .same :: l => flatOs D l
  | t :: l => flatT D t && flatOs D l
def keptQ (ob : Nat → Option (AO S)) : List Nat → Option (List (Nat × AO S))
  | [] => some []
  | o :: l => match ob o, keptQ ob l with
    | some a, some r => some ((o, a) :: r)
    | _, _ => none
def lendQ (D : Shp S) (ob : Nat → Option (AO S)) (rets outs : List (Tr S)) (fz : List (Nat × AO S)) (fzl : List Nat) : List (Nat × AO S) :=
  match fzl with
  | [] => fz
  | l => bif flatTs D rets && flatOs D outs then (keptQ ob l).getD fz else fz
def nodupQ : List Nat → Bool
  | [] => true
  | a :: l => !hasN l a && nodupQ l
/-- A call of a function whose contract is known. -/
def callC (D : Shp S) (c : Con S) (ro : Ro S) (st : AS S) (full : List (SV S)) (ban : List Nat → Bool) (k : AS S → SV S → Prop) : Prop :=
  optK (gaths D (obS ro st) ro.cell c.pk full) fun q => optK (frzs (obS ro st) q.2.2) fun fz =>
    bif nodupQ (q.2.1 ++ q.2.2) && inRw st (q.2.1 ++ q.2.2) && ban (q.2.1 ++ q.2.2) then
      c.m q.1 fun rets outs => optK (updT (obS ro st) ro.cell c.pk full outs st.next) fun a => optK (insts D rets a.2) fun r =>
        forceO (r.2.1 ++ (a.1 ++ (lendQ D (obS ro st) rets outs fz q.2.2 ++ delNs st.objs (q.2.1 ++ q.2.2)))) fun os => k { slots := st.slots, objs := os, next := r.2.2 } (tupS r.1)
    else False
/-- What stays. -/
def pickN (objs : List (Nat × AO S)) : List Nat → Option (List (Nat × AO S))
  | [] => some []
  | o :: l => match findN objs o, pickN objs l with
    | some a, some r => some ((o, a) :: r)
    | _, _ => none
def forceL : List Nat → (List Nat → Prop) → Prop
  | [], k => k []
  | i :: l, k => forceL l fun l => k (i :: l)
theorem forceL_eq : ∀ {l : List Nat} {k : List Nat → Prop}, forceL l k = k l
  | [], _ => rfl
  | _ :: _, _ => by unfold forceL; rw [forceL_eq]
/-! What the arguments of a call into a function's own text reach. -/
mutual
def refsS : SV S → List Nat
  | .ref o _ => [o]
  | .eref _ o _ _ => [o]
  | .aref _ _ o _ _ => [o]
  | .hnd o => [o]
  | .agg l => refsL l
  | .tup l => refsL l
  | .fn _ a b => refsL a ++ refsL b
  | _ => []
def refsL : List (SV S) → List Nat
  | [] => []
  | s :: l => refsS s ++ refsL l
end
def reachN (ob : Nat → Option (AO S)) (lkc : Nat → Nat → SV S) : Nat → List Nat → List Nat → List Nat
  | 0, _, seen => seen
  | _ + 1, [], seen => seen
  | n + 1, o :: todo, seen => bif hasN seen o then reachN ob lkc n todo seen else match ob o with
    | some (.cells _ l) => reachN ob lkc n (refsL (resL (lkc o) 0 l) ++ todo) (o :: seen)
    | some _ => reachN ob lkc n todo (o :: seen)
    | none => reachN ob lkc n todo seen
def reachQ (ro : Ro S) (st : AS S) (full : List (SV S)) : List Nat := (reachN (obS ro st) ro.cell 400 (refsL full) []).filter fun o => (findN st.objs o).isSome
/-! Operations. -/
def isEff (ob : Nat → Option (AO S)) (e : Operand → SV S) : Op → Bool
  | .alloc _ => true
  | .box _ _ => true
  | .store _ _ _ => true
  | .makeMap _ _ => true
  | .mapUpdate _ _ _ _ => true
  | .buildSlice _ _ _ => true
  | .makeSlice _ _ _ => true
  | .call ⟨.builtin .append, _, _⟩ => true
  | .range _ _ => true
  | .next _ _ => true
  | .slice _ x none (some _) none => match e x with
    | .hnd o => match ob o with
      | some (.vec _ _ _) => true
      | _ => false
    | _ => false
  | .slice _ x none none none => match e x with
    | .ref _ _ => true
    | _ => false
  | .slice _ x (some _) _ none => match e x with
    | .hnd o => match ob o with
      | some (.vec _ _ _) => true
      | _ => false
    | _ => false
  | _ => false
def isCall : Op → Bool
  | .call ⟨.value _, _, _⟩ => true
  | _ => false
/-- Into a function's own text. -/
abbrev InlH (S : Sig) := Nat → List (SV S) → Ro S → AS S → (AS S → SV S → Prop) → Prop
def stepS (E : Ev S) (inlh : InlH S) (n : Nat) (ro : Ro S) (st : AS S) (ban : List Nat → Bool) (o : Oper) (k : List Nat → AS S → Prop) : Prop :=
  match o.op with
  | .call ⟨.value f, args, _⟩ => (match evS n ro st f with
    | .fn g first cap => (match E.con g with
      | some c => callC E.D c ro st (first ++ args.toList.map (evS n ro st) ++ cap) ban fun st s => putS ro st o.dst s (k [])
      | none => forceL (reachQ ro st (first ++ args.toList.map (evS n ro st) ++ cap)) fun tk => optK (pickN st.objs tk) fun tko =>
          bif E.inl g && nodupQ tk && ban (tk ++ ro.objs.map (·.1)) then
            inlh g (first ++ args.toList.map (evS n ro st) ++ cap) ro { slots := st.slots, objs := tko, next := st.next } fun a s =>
              forceO (a.objs ++ delNs st.objs tk) fun os => putS ro { slots := a.slots, objs := os, next := a.next } o.dst s (k []) else False)
    | _ => False)
  | op => bif isEff (obS ro st) (evS n ro st) op then
      effOp E.P E.D (evS n ro st) (obS ro st) st.next op fun tl outs sv => bif inRw st tl && ban tl then
        (match sv with
        | some s => forceO (outs ++ delNs st.objs tl) fun os => putS ro { slots := st.slots, objs := os, next := st.next + 1 } o.dst s (k [])
        | none => bif o.dst.isNone then forceO (outs ++ delNs st.objs tl) fun os => k [] { slots := st.slots, objs := os, next := st.next + 1 } else False) else False
    else pureOp E.P E.D (evS n ro st) (obS ro st) ro.cell op fun rd s => putS ro st o.dst s (k rd)
/-- A guard. -/
def guardS (n : Nat) (ro : Ro S) (ops : Array Oper) (st : AS S) (o : Oper) (yes no : AS S → Prop) : Prop :=
  match o.guard with
  | none => yes st
  | some (j, want) => match (ops[j]?).bind (·.dst) with
    | none => False
    | some d => match evS n ro st (.tmp d) with
      | .lit b => bif b == want then yes st else no st
      | .und => no st
      | .f (.bool b) => Cnd (b = true) (bif want then yes { st with slots := updS st.slots d (.lit true) } else no { st with slots := updS st.slots d (.lit true) })
          (bif want then no { st with slots := updS st.slots d (.lit false) } else yes { st with slots := updS st.slots d (.lit false) })
      | .pb p _ false => Cnd p (bif want then yes { st with slots := updS st.slots d (.lit true) } else no { st with slots := updS st.slots d (.lit true) })
          (bif want then no { st with slots := updS st.slots d (.lit false) } else yes { st with slots := updS st.slots d (.lit false) })
      | .pb p _ true => Cnd p (bif want then no { st with slots := updS st.slots d (.lit false) } else yes { st with slots := updS st.slots d (.lit false) })
          (bif want then yes { st with slots := updS st.slots d (.lit true) } else no { st with slots := updS st.slots d (.lit true) })
      | _ => False
def noBan : List Nat → Bool := fun _ => true
/-- Operations in the order of the text. -/
def opsS (E : Ev S) (inlh : InlH S) (n : Nat) (ro : Ro S) (ops : Array Oper) : List Oper → AS S → (AS S → Prop) → Prop
  | [], st, k => k st
  | o :: l, st, k => guardS n ro ops st o (fun st => stepS E inlh n ro st noBan o fun _ st => opsS E inlh n ro ops l st k)
      fun st => putS ro st o.dst .und fun st => opsS E inlh n ro ops l st k
/-! A region that draws its order. -/
def depQ (ops : Array Oper) (j i : Nat) : Bool :=
  match ops[j]? with
  | some o => o.after.any fun e => Region.binds .any e && Nat.beq e.on i
  | none => false
/-- The operations whose values an operation takes. -/
def datasQ (ops : Array Oper) (j : Nat) : List Nat :=
  match ops[j]? with
  | some o => (o.after.toList.filter fun e => match e.ground with | .data => true | _ => false).map (·.on)
  | none => []
def anyN (f : Nat → Bool) : List Nat → Bool
  | [] => false
  | m :: l => bif f m then true else anyN f l
/-- Does it wait for another one, at once or through the values that it takes? -/
def depT (ops : Array Oper) : Nat → Nat → Nat → Bool
  | 0, j, i => depQ ops j i
  | k + 1, j, i => bif depQ ops j i then true else anyN (fun m => depT ops k m i) (datasQ ops j)
abbrev depD (ops : Array Oper) (j i : Nat) : Bool := depT ops 12 j i
/-- May the operation be taken before others? -/
def firstQ (ops : Array Oper) (m mask : Nat) (isP : Oper → Bool) : List Nat → Option Nat
  | [] => none
  | i :: l => match ops[i]? with
    | some o => bif isP o && o.dst.isSome && Region.free .any ops (bt m mask) i then some i else firstQ ops m mask isP l
    | none => none
def prune (ops : Array Oper) (j : Nat) (prot : List (Nat × List Nat)) : List (Nat × List Nat) := prot.filter fun q => !depD ops j q.1
/-- Are the objects that are still to be read left alone? -/
def banQ (ro : Ro S) (st : AS S) (ops : Array Oper) (j : Nat) (prot : List (Nat × List Nat)) (tl : List Nat) : Bool :=
  prot.all fun q => depD ops j q.1 || q.2.all fun o => !hasN tl o && (match obS ro st o with | some (.frz _ _) => false | some _ => true | none => false)
def allR (f : Nat → Prop) : List Nat → Prop
  | [] => True
  | [i] => f i
  | i :: l => f i ∧ allR f l
/-- An operation that leaves the world alone, whatever its guard says. -/
def pureQ (ro : Ro S) (n : Nat) (ops : Array Oper) (st : AS S) (o : Oper) : Bool :=
  !isEff (obS ro st) (evS n ro st) o.op && !isCall o.op || (match o.guard with
    | some (j, want) => match ((ops[j]?).bind (·.dst)).map (fun d => evS n ro st (.tmp d)) with
      | some (.lit b) => !(b == want)
      | some .und => true
      | _ => false
    | none => false)
/-- What a new variable holds. -/
def zAO (P : Program) (D : Shp S) (t : TypeId) : Option (AO S) :=
  match D.acode t with
  | some (T, N) => some (.arr t T N (List.replicate N (D.zero T)))
  | none => (match (P.info? t).bind (·.zero) with
    | some z => bif z.cells.toList.all isZ then some (.cells t (z.cells.toList.map fun v => SV.f (ofZero v))) else none
    | none => none)
/-- New variables that wait for nothing: they are made behind all that does not wait for them. -/
def isLate (P : Program) (D : Shp S) (ro : Ro S) (ops : Array Oper) (i : Nat) : Bool :=
  match ops[i]? with
  | some o => (match o.op, o.dst with
    | .alloc t, some d => (zAO P D t).isSome && !hasN ro.lock d && o.guard.isNone && o.after.toList.isEmpty && (List.range ops.size).all fun j => Nat.beq j i || (match (ops[j]?).bind (·.dst) with | some d' => !Nat.beq d' d | none => true)
    | _, _ => false)
  | none => false
def latesQ (P : Program) (D : Shp S) (ro : Ro S) (ops : Array Oper) : List Nat := (List.range ops.size).filter (isLate P D ro ops)
def orL (mask : Nat) : List Nat → Nat
  | [] => mask
  | i :: L => orL (mask ||| 1 <<< i) L
/-- A late variable's slot holds nothing yet. -/
def deadL (ops : Array Oper) : List Nat → AS S → AS S
  | [], st => st
  | i :: L, st => deadL ops L (match (ops[i]?).bind (·.dst) with
    | some d => (match st.slots d with
      | .dead => st
      | _ => { st with slots := updS st.slots d .dead })
    | none => st)
def deadK (ops : Array Oper) : List Nat → AS S → (AS S → Prop) → Prop
  | [], st, k => k st
  | i :: L, st, k => match (ops[i]?).bind (·.dst) with
    | some d => (match st.slots d with
      | .dead => deadK ops L st k
      | _ => deadK ops L { st with slots := updS st.slots d .dead } k)
    | none => deadK ops L st k
theorem deadK_eq {ops : Array Oper} : ∀ {L : List Nat} {st : AS S} {k : AS S → Prop}, deadK ops L st k = k (deadL ops L st)
  | [], _, _ => rfl
  | i :: L, st, k => by
    unfold deadK deadL
    split
    · split
      · rename_i h; rw [deadK_eq]
      · rename_i h; rw [deadK_eq]
    · rw [deadK_eq]
def notL (L : List Nat) (l : List Nat) : List Nat := l.filter fun j => !hasN L j
def drawS (E : Ev S) (inlh : InlH S) (n : Nat) (ro : Ro S) (ops : Array Oper) (m : Nat) (k : AS S → Prop) : Nat → List Nat → Nat → List (Nat × List Nat) → AS S → Prop
  | 0, L, mask, _, st => bif L.isEmpty && (Region.ready .any ops (bt m mask)).isEmpty then k st else False
  | fuel + 1, L, mask, prot, st => match notL L (Region.ready .any ops (bt m mask)) with
    | [] => (match L with
      | [] => k st
      | i :: L' => bif (Region.ready .any ops (bt m (orL mask L'))).all fun j => Nat.beq j i then (match ops[i]? with
        | some o => stepS E inlh n ro st noBan o fun _ st => deadK ops L' st fun st => drawS E inlh n ro ops m k fuel L' (mask ||| 1 <<< i) prot st
        | none => False) else False)
    | rs => match firstQ ops m mask (pureQ ro n ops st) rs with
      | some i => (match ops[i]? with
        | some o => guardS n ro ops st o
            (fun st => bif isEff (obS ro st) (evS n ro st) o.op || isCall o.op then False else
              pureOp E.P E.D (evS n ro st) (obS ro st) ro.cell o.op fun rd s => putS ro st o.dst s fun st => deadK ops L st fun st => drawS E inlh n ro ops m k fuel L (mask ||| 1 <<< i) ((i, rd) :: prot) st)
            fun st => putS ro st o.dst .und fun st => deadK ops L st fun st => drawS E inlh n ro ops m k fuel L (mask ||| 1 <<< i) ((i, []) :: prot) st
        | none => False)
      | none => bif L.isEmpty || (Region.ready .any ops (bt m (orL mask L))).all (hasN rs) then allR (fun i => match ops[i]? with
        | some o => guardS n ro ops st o
            (fun st => stepS E inlh n ro st (banQ ro st ops i prot) o fun _ st => deadK ops L st fun st => drawS E inlh n ro ops m k fuel L (mask ||| 1 <<< i) (prune ops i prot) st)
            fun st => putS ro st o.dst .und fun st => deadK ops L st fun st => drawS E inlh n ro ops m k fuel L (mask ||| 1 <<< i) (prune ops i prot) st
        | none => False) rs else False
def drawT (E : Ev S) (inlh : InlH S) (n : Nat) (ro : Ro S) (ops : Array Oper) (k : AS S → Prop) (st : AS S) : Prop :=
  forceL (latesQ E.P E.D ro ops) fun L => deadK ops L st fun st => drawS E inlh n ro ops ops.size k ops.size L 0 [] st
/-! Parts that ways and rounds change. -/
def frzIn (st : AS S) (fz : List Nat) (k : AS S → Prop) : Prop :=
  optK (frzs (findN st.objs) fz) fun l => bif nodupQ fz then k { st with objs := l ++ delNs st.objs fz } else False
def getK (D : Shp S) (ro : Ro S) (st : AS S) (s : SV S) : (kd : Kd S) → (kd.ty → AS S → Prop) → Prop
  | .int kk, K => (match s with
    | .f (.int k' a) => bif kk == k' then K a st else False
    | _ => False)
  | .bool, K => optK (boolS s) fun b => K b st
  | .str, K => (match s with
    | .f (.str a) => K a st
    | _ => False)
  | .sl T, K => (match s with
    | .f .nils => K [] st
    | .f (.sl T' l) => withCast T' T l fun l => K l st
    | .hnd o => (match obS ro st o with
      | some (.frz T' l) => withCast T' T l fun l => K l st
      | some (.vec _ T' l) => withCast T' T l fun l => frzIn st [o] fun st => K l st
      | _ => False)
    | _ => False)
  | .own e T, K => (match ownQ e T (findN st.objs) s with
    | some (a, l) => K l { st with objs := delNs st.objs a }
    | none => False)
  | .el T, K => (match s with
    | .agg cs => optK (toFs (obS ro st) cs) fun q => frzIn st q.2 fun st => optK (D.bld T q.1) fun x => K x st
    | _ => False)
  | .map _ _, _ => False
  | .arr _ _ _, _ => False
  | .iter _ _, _ => False
  | .siter, _ => False
def getO (o : Nat) (st : AS S) : (kd : Kd S) → (kd.ty → AS S → Prop) → Prop
  | .own e T, K => (match findN st.objs o with
    | some (.vec e' T' l) => bif Nat.beq e e' then withCast T' T l fun l => K l { st with objs := delN st.objs o } else False
    | _ => False)
  | .map Kc V, K => (match findN st.objs o with
    | some (.map K' V' F) => withMap K' V' F Kc V fun F => K F { st with objs := delN st.objs o }
    | _ => False)
  | .arr ty T N, K => (match findN st.objs o with
    | some (.arr ty' T' N' l) => bif Nat.beq ty ty' && Nat.beq N N' then withCast T' T l fun l => K l { st with objs := delN st.objs o } else False
    | _ => False)
  | .iter Kc V, K => (match findN st.objs o with
    | some (.iter K' V' F done _) => withMap K' V' F Kc V fun F => withCast K' Kc done fun done => K (F, done) { st with objs := delN st.objs o }
    | _ => False)
  | .siter, K => (match findN st.objs o with
    | some (.siter s pos) => K (s, pos) { st with objs := delN st.objs o }
    | _ => False)
  | _, _ => False
def getI (D : Shp S) (ro : Ro S) (st : AS S) : (i : Item S) → (i.2.ty → AS S → Prop) → Prop
  | (.slot j, kd), K => getK D ro st (slotS ro st j) kd K
  | (.cell o i, kd), K => (match findN st.objs o with
    | some (.cells _ l) => (match l[i]? with
      | some s => getK D ro st s kd K
      | none => False)
    | _ => False)
  | (.obj o, kd), K => getO o st kd K
def getAll (D : Shp S) (ro : Ro S) : (l : List (Item S)) → AS S → (HL l → AS S → Prop) → Prop
  | [], st, K => K () st
  | i :: l, st, K => getI D ro st i fun x st => getAll D ro l st fun xs st => K (x, xs) st
/-- A part, put back: its value, and the object that it is. -/
def putK (D : Shp S) (nm : Nat) : (kd : Kd S) → kd.ty → SV S × List (Nat × AO S)
  | .int k, a => (.f (.int k a), [])
  | .bool, b => (.f (.bool b), [])
  | .str, a => (.f (.str a), [])
  | .sl T, l => (.f (.sl T l), [])
  | .own e T, l => (.hnd nm, [(nm, .vec e T l)])
  | .el T, x => (.agg ((D.shape T x).map SV.f), [])
  | .map K V, F => (.hnd nm, [(nm, .map K V F)])
  | .arr ty T N, l => (.ref nm 0, [(nm, .arr ty T N l)])
  | .iter K V, x => (.ref nm 0, [(nm, .iter K V x.1 x.2 none)])
  | .siter, x => (.ref nm 0, [(nm, .siter x.1 x.2)])
structure Acc (S : Sig) where
  slots : Nat → SV S
  cells : List ((Nat × Nat) × SV S)
  objs : List (Nat × AO S)
def putAll (D : Shp S) : (l : List (Item S)) → HL l → Nat → Acc S → Acc S
  | [], _, _, a => a
  | (.slot j, kd) :: l, (x, xs), nm, a => putAll D l xs (nm + 1) { a with slots := updS a.slots j (putK D nm kd x).1, objs := (putK D nm kd x).2 ++ a.objs }
  | (.cell o i, kd) :: l, (x, xs), nm, a => putAll D l xs (nm + 1) { a with cells := ((o, i), (putK D nm kd x).1) :: a.cells, objs := (putK D nm kd x).2 ++ a.objs }
  | (.obj o, kd) :: l, (x, xs), nm, a => putAll D l xs (nm + 1) { a with objs := (putK D o kd x).2 ++ a.objs }
def cellQ : List ((Nat × Nat) × SV S) → Nat → Nat → Option (SV S)
  | [], _, _ => none
  | ((o, i), s) :: l, o', i' => bif Nat.beq o o' && Nat.beq i i' then some s else cellQ l o' i'
def mkCells (g : Nat → Option (SV S)) : Nat → Nat → List (SV S)
  | _, 0 => []
  | i, n + 1 => (g i).getD .lk :: mkCells g (i + 1) n
def objsOf (cells : List ((Nat × Nat) × SV S)) : List (Nat × TypeId × Nat) → List (Nat × AO S)
  | [] => []
  | (o, ty, len) :: l => (o, .cells ty (mkCells (cellQ cells o) 0 len)) :: objsOf cells l
/-- The state that the parts make. -/
def stOf (D : Shp S) (sp : Spec S) (nm : Nat) (t : HL sp.items) : AS S :=
  let a := putAll D sp.items t nm ⟨fun _ => .dead, [], []⟩
  { slots := a.slots, objs := a.objs ++ objsOf a.cells sp.cobj, next := nm + sp.items.length }
def hasC : List (Nat × TypeId × Nat) → Nat → Bool
  | [], _ => false
  | (o, _, _) :: l, o' => bif Nat.beq o o' then true else hasC l o'
def roOf (sp : Spec S) (ro : Ro S) (st : AS S) (robj : List (Nat × AO S)) : Ro S where
  slots := slotS ro st
  lock := ro.lock ++ sp.lock
  objs := robj ++ ro.objs
  cell := fun o i => bif hasC sp.cobj o then (match findN st.objs o with
    | some (.cells _ l) => (resL (ro.cell o) 0 l).getD i .dead
    | _ => .dead) else ro.cell o i
  glob := ro.glob
def objLt (nm : Nat) : List (Item S) → Bool
  | [] => true
  | (.obj o, _) :: l => Nat.blt o nm && objLt nm l
  | (.cell o _, _) :: l => Nat.blt o nm && objLt nm l
  | _ :: l => objLt nm l
/-- Are the objects with locked cells there, at their types and lengths, and apart from what stays? -/
def cobjQ (sp : Spec S) (ro : Ro S) (st : AS S) : Bool :=
  (sp.cobj.all fun q => (match findN st.objs q.1 with
    | some (.cells ty l) => Nat.beq ty q.2.1 && Nat.beq l.length q.2.2
    | _ => false) && !hasN sp.robj q.1) && nodupQ ((st.objs ++ ro.objs).map (·.1)) && nodupQ sp.robj && nodupQ (sp.cobj.map (·.1)) && sp.cobj.all (fun q => Nat.blt q.1 st.next) && objLt st.next sp.items
/-- Their cells, locked where no part is. -/
def lockL (l : List (SV S)) (g : Nat → Bool) : Nat → List (SV S) := fun i =>
  match l with
  | [] => []
  | s :: l => (bif g i then s else .lk) :: lockL l g (i + 1)
def itemC : List (Item S) → Nat → Nat → Bool
  | [], _, _ => false
  | (.cell o i, _) :: l, o', i' => bif Nat.beq o o' && Nat.beq i i' then true else itemC l o' i'
  | _ :: l, o', i' => itemC l o' i'
def lockObjs (sp : Spec S) : List (Nat × AO S) → List (Nat × AO S)
  | [] => []
  | (o, .cells ty l) :: os => (o, bif hasC sp.cobj o then .cells ty (lockL l (itemC sp.items o) 0) else .cells ty l) :: lockObjs sp os
  | q :: os => q :: lockObjs sp os
/-- At the end of a way or a round: are the locked cells locked still? -/
def stillL (g : Nat → Bool) : Nat → List (SV S) → Bool
  | _, [] => true
  | i, .lk :: l => stillL g (i + 1) l
  | i, _ :: l => g i && stillL g (i + 1) l
def endQ (sp : Spec S) (st : AS S) : Bool :=
  sp.cobj.all fun q => match findN st.objs q.1 with
    | some (.cells ty l) => Nat.beq ty q.2.1 && Nat.beq l.length q.2.2 && stillL (itemC sp.items q.1) 0 l
    | _ => false
def endI (D : Shp S) (ro : Ro S) (sp : Spec S) (st : AS S) (Y : HL sp.items → Prop) : Prop :=
  getAll D ro sp.items st fun t st => bif endQ sp st then Y t else False
/-- Out of a loop or a way: what was locked is as it was. -/
def unlockL : List (SV S) → List (SV S) → List (SV S)
  | [], _ => []
  | .lk :: l, l0 => l0.head?.getD .dead :: unlockL l l0.tail
  | s :: l, l0 => s :: unlockL l l0.tail
def unlock (sp : Spec S) (st : AS S) : List (Nat × AO S) → List (Nat × AO S)
  | [] => []
  | (o, .cells ty l) :: os => (o, bif hasC sp.cobj o then .cells ty (unlockL l (match findN st.objs o with | some (.cells _ l0) => l0 | _ => [])) else .cells ty l) :: unlock sp st os
  | q :: os => q :: unlock sp st os
def merge (sp : Spec S) (st : AS S) (robj : List (Nat × AO S)) (a : AS S) : AS S where
  slots := fun j => bif hasN sp.lock j then st.slots j else a.slots j
  objs := unlock sp st a.objs ++ robj
  next := a.next
/-! Joins and loops over the parts. -/
def LpH {T : Type} (body : T → (T → Prop) → Prop) (t : T) : Prop := ∀ X : T → Prop, (∀ t' Y, (∀ u, Y u → X u) → body t' Y → X t') → X t
def LpG : (l : List (Item S)) → (HL l → (HL l → Prop) → Prop) → HL l → Prop
  | [_], body, t => Lp1 (fun x Y => body (x, ()) fun u => Y u.1) t.1
  | [_, _], body, t => Lp2 (fun x y Y => body (x, y, ()) fun u => Y u.1 u.2.1) t.1 t.2.1
  | [_, _, _], body, t => Lp3 (fun x y z Y => body (x, y, z, ()) fun u => Y u.1 u.2.1 u.2.2.1) t.1 t.2.1 t.2.2.1
  | [_, _, _, _], body, t => Lp4 (fun x y z v Y => body (x, y, z, v, ()) fun u => Y u.1 u.2.1 u.2.2.1 u.2.2.2.1) t.1 t.2.1 t.2.2.1 t.2.2.2.1
  | [_, _, _, _, _], body, t => Lp5 (fun x y z v w Y => body (x, y, z, v, w, ()) fun u => Y u.1 u.2.1 u.2.2.1 u.2.2.2.1 u.2.2.2.2.1) t.1 t.2.1 t.2.2.1 t.2.2.2.1 t.2.2.2.2.1
  | _, body, t => LpH body t
def JnG : (l : List (Item S)) → (HL l → Prop) → ((HL l → Prop) → Prop) → Prop
  | [], k, A => Jn0 (k ()) fun Y => A fun _ => Y
  | [_], k, A => Jn1 (fun x => k (x, ())) fun Y => A fun u => Y u.1
  | [_, _], k, A => Jn2 (fun x y => k (x, y, ())) fun Y => A fun u => Y u.1 u.2.1
  | [_, _, _], k, A => Jn3 (fun x y z => k (x, y, z, ())) fun Y => A fun u => Y u.1 u.2.1 u.2.2.1
  | [_, _, _, _], k, A => Jn4 (fun x y z v => k (x, y, z, v, ())) fun Y => A fun u => Y u.1 u.2.1 u.2.2.1 u.2.2.2.1
  | _, k, A => Jn1 k A
/-! Code. -/
def keyC : Code → Nat
  | .region id _ _ => id
  | .seq a _ => keyC a
  | .cond _ a _ => keyC a
  | .block _ a => keyC a
  | .loop a => keyC a
  | .scope a => keyC a
  | _ => 0
abbrev Kc (S : Sig) := Exit → AS S → Prop
def thenK (f : AS S → Prop) (k : Kc S) : Kc S
  | .normal, st => f st
  | e, st => k e st
def blockK (id : Nat) (k : Kc S) : Kc S
  | .exit i, st => bif Nat.beq i id then k .normal st else k (.exit i) st
  | e, st => k e st
def scopeK (k : Kc S) : Kc S
  | .goto _, _ => False
  | e, st => k e st
/-- No spec stands here, or one that does not fit. -/
def NoPlan (_ : Nat) (_ : Ro S) (_ : AS S) : Prop := False
def planK (key : Nat) (ro : Ro S) (st : AS S) (o : Option (List (Nat × AO S))) (k : List (Nat × AO S) → Prop) : Prop :=
  match o with
  | some x => k x
  | none => NoPlan key ro st
/-- Which spec stands at a loop, and at a join. -/
def vcC (E : Ev S) (inlh : InlH S) (n : Nat) : Code → Ro S → Kc S → AS S → Prop
  | .skip, _, k, st => k .normal st
  | .region _ ops draw, ro, k, st => bif draw then (bif Region.noSelect ops then drawT E inlh n ro ops (k .normal) st else False) else opsS E inlh n ro ops ops.toList st (k .normal)
  | .seq x y, ro, k, st => match E.plan (E.base + 2 * keyC y) with
    | none => vcC E inlh n x ro (thenK (vcC E inlh n y ro k) k) st
    | some sp => planK (E.base + 2 * keyC y) ro st (pickN st.objs sp.robj) fun robj => bif cobjQ sp ro st then
        JnG sp.items (fun t => vcC E inlh n y ro k (merge sp st robj (stOf E.D sp st.next t)))
          fun Y => vcC E inlh n x (roOf sp ro st robj) (thenK (fun a => endI E.D (roOf sp ro st robj) sp a Y) fun e a => k e (merge sp st robj a))
            { slots := st.slots, objs := lockObjs sp (delNs st.objs sp.robj), next := st.next }
      else False
  | .cond c x y, ro, k, st => tst (evS n ro st c) (vcC E inlh n x ro k st) (vcC E inlh n y ro k st)
  | .block id b, ro, k, st => vcC E inlh n b ro (blockK id k) st
  | .loop b, ro, k, st => match E.plan (E.base + 2 * keyC b + 1) with
    | none => NoPlan (E.base + 2 * keyC b + 1) ro st
    | some sp => planK (E.base + 2 * keyC b + 1) ro st (pickN st.objs sp.robj) fun robj => bif cobjQ sp ro st then
        endI E.D (roOf sp ro st robj) sp { slots := st.slots, objs := lockObjs sp (delNs st.objs sp.robj), next := st.next } fun t0 =>
          LpG sp.items (fun t Y => vcC E inlh n b (roOf sp ro st robj) (thenK (fun a => endI E.D (roOf sp ro st robj) sp a Y) fun e a => k e (merge sp st robj a)) (stOf E.D sp st.next t)) t0
      else False
  | .exit i, _, k, st => k (.exit i) st
  | .scope b, ro, k, st => vcC E inlh n b ro (scopeK k) st
  | .ret, _, k, st => k .ret st
  | _, _, _, _ => False
/-- A function's results. -/
def resK (P : Program) (D : Shp S) (n : Nat) (ro : Ro S) (st : AS S) : List ResultVar → (List (SV S) → Prop) → Prop
  | [], K => K []
  | .tmp t :: l, K => resK P D n ro st l fun r => K (evS n ro st (.tmp t) :: r)
  | .cell t ty :: l, K => pureOp P D (evS n ro st) (obS ro st) ro.cell (.load ty (.tmp t)) fun _ s => resK P D n ro st l fun r => K (s :: r)
def frlS (l : List (SV S)) : Nat → SV S := fun j => l.getD j .und
/-- The parts that a function leaves changed: those that are no slots. -/
def outItems : List (Item S) → List (Item S)
  | [] => []
  | (.slot _, _) :: l => outItems l
  | i :: l => i :: outItems l
def outSp (sp : Spec S) : Spec S := { sp with items := outItems sp.items }
def objIn (objs : List (Nat × AO S)) : List (Item S) → Bool
  | [] => true
  | (.obj o, _) :: l => (findN objs o).isSome && objIn objs l
  | (.cell o _, _) :: l => (findN objs o).isSome && objIn objs l
  | _ :: l => objIn objs l
/-- The same object's place. -/
def refQ : SV S → SV S → Bool
  | .ref a b, .ref c d => Nat.beq a c && Nat.beq b d
  | _, _ => false
/-- A piece that goes into itself. -/
def RecH {T U : Type} (body : (Nat → T → (U → Prop) → Prop) → Nat → T → (U → Prop) → Prop) (n : Nat) (t : T) (K : U → Prop) : Prop :=
  ∀ X : Nat → T → (U → Prop) → Prop, (∀ n t K, body X n t K → X n t K) → X n t K
def hndl (D : Shp S) (g : Nat) (sp : Spec S) (ro1 : Ro S) (full : List (SV S)) (X : Nat → HL sp.items → (HL (outSp sp).items → Prop) → Prop) : InlH S := fun g' full' ro' st' k' =>
  bif Nat.beq g' g && Nat.beq ro'.stamp 1 && Nat.beq full'.length full.length && sp.lock.all (fun j => refQ (frlS full' j) (frlS full j)) && objIn st'.objs sp.items then
    endI D ro1 sp { slots := frlS full', objs := st'.objs, next := st'.next } fun t => X st'.next t fun u =>
      k' { slots := st'.slots, objs := (stOf D (outSp sp) st'.next u).objs, next := (stOf D (outSp sp) st'.next u).next } (.tup []) else False
/-- What a function leaves, without results. -/
def exitR (D : Shp S) (sp : Spec S) (ro1 : Ro S) (Y : HL (outSp sp).items → Prop) : Kc S := fun e a =>
  match e with
  | .ret => endI D ro1 (outSp sp) a Y
  | .normal => endI D ro1 (outSp sp) a Y
  | _ => False
def inlN (E : Ev S) : Nat → InlH S
  | 0 => fun _ _ _ _ _ => False
  | fuel + 1 => fun g full ro st k => match E.P.funcs[g]? with
    | some fn => (match fn.body with
      | some c => bif Nat.ble full.length fn.ntmps then
          (match E.plan (1000000 * (g + 1) + 999999) with
          | none => vcC (E.at (1000000 * (g + 1))) (inlN E fuel) fn.ntmps c { slots := fun _ => .dead, lock := [], objs := ro.objs, cell := ro.cell, glob := ro.glob }
            (fun e a => match e with
              | .ret => resK E.P E.D fn.ntmps { slots := fun _ => .dead, lock := [], objs := ro.objs, cell := ro.cell, glob := ro.glob } a fn.results.toList fun r => k { slots := st.slots, objs := a.objs, next := a.next } (tupS r)
              | .normal => resK E.P E.D fn.ntmps { slots := fun _ => .dead, lock := [], objs := ro.objs, cell := ro.cell, glob := ro.glob } a fn.results.toList fun r => k { slots := st.slots, objs := a.objs, next := a.next } (tupS r)
              | _ => False)
            { slots := frlS full, objs := st.objs, next := st.next }
          | some sp =>
            let ro0 : Ro S := { slots := fun _ => .dead, lock := [], objs := ro.objs, cell := ro.cell, glob := ro.glob }
            let st0 : AS S := { slots := frlS full, objs := st.objs, next := st.next }
            planK (1000000 * (g + 1) + 999999) ro0 st0 (pickN st0.objs sp.robj) fun robj => bif cobjQ sp ro0 st0 && sp.cobj.isEmpty && fn.results.toList.isEmpty then
              endI E.D { roOf sp ro0 st0 robj with stamp := 1 } sp { slots := st0.slots, objs := lockObjs sp (delNs st0.objs sp.robj), next := st0.next } fun t0 =>
                RecH (fun X nm t Y => vcC (E.at (1000000 * (g + 1))) (hndl E.D g sp { roOf sp ro0 st0 robj with stamp := 1 } full X) fn.ntmps c { roOf sp ro0 st0 robj with stamp := 1 } (exitR E.D sp { roOf sp ro0 st0 robj with stamp := 1 } Y) (stOf E.D sp nm t))
                  st.next t0 fun u => k { slots := st.slots, objs := (merge sp st0 robj (stOf E.D (outSp sp) st.next u)).objs, next := (stOf E.D (outSp sp) st.next u).next } (.tup [])
            else False) else False
      | none => False)
    | none => False
/-! Which cells of what comes in stay. -/
mutual
def cons : PK S → SV S → (Nat → Option (AO S)) → List (Nat × Nat)
  | .ptr _ pk, .ref o 0, ob => match ob o with
    | some (.cells _ l) => conss o 0 pk l ob
    | _ => []
  | _, _, _ => []
def conss (o i : Nat) : List (PK S) → List (SV S) → (Nat → Option (AO S)) → List (Nat × Nat)
  | .c :: pk, _ :: l, ob => (o, i) :: conss o (i + 1) pk l ob
  | p :: pk, s :: l, ob => cons p s ob ++ conss o (i + 1) pk l ob
  | _, _, _ => []
end
def consT : List (PK S) → List (SV S) → (Nat → Option (AO S)) → List (Nat × Nat)
  | p :: pk, s :: l, ob => cons p s ob ++ consT pk l ob
  | _, _, _ => []
def hasP : List (Nat × Nat) → Nat → Nat → Bool
  | [], _, _ => false
  | (a, b) :: l, o, i => bif Nat.beq a o && Nat.beq b i then true else hasP l o i
def lockP (cs : List (Nat × Nat)) : List (Nat × AO S) → List (Nat × AO S)
  | [] => []
  | (o, .cells ty l) :: os => (o, .cells ty (lockL l (fun i => !hasP cs o i) 0)) :: lockP cs os
  | q :: os => q :: lockP cs os
/-- A function by its own text: what must hold of what is handed to it, for an end. -/
def fnVC (E : Ev S) (fuel g : Nat) (pk rk : List (PK S)) (args : List (Tr S)) (K : List (Tr S) → List (Tr S) → Prop) : Prop :=
  match E.P.funcs[g]? with
  | some fn => (match fn.body, insts E.D args 0 with
    | some c, some (ss, os, nx) => bif Nat.ble ss.length fn.ntmps then
        let cs := consT pk ss (findN os)
        let ro : Ro S := { slots := fun _ => .dead, lock := [], objs := [], cell := fun o i => match findN os o with | some (.cells _ l) => l.getD i .dead | _ => .dead, glob := E.D.glob }
        vcC E (inlN E fuel) fn.ntmps c ro
          (fun e a => match e with
            | .ret => resK E.P E.D fn.ntmps ro a fn.results.toList fun r => optK (gaths E.D (obS ro a) ro.cell rk r) fun q => optK (backT (obS ro a) (findN os) ro.cell pk ss) fun q' => optK (frzs (obS ro a) (q.2.2 ++ q'.2.2)) fun _ =>
                bif nodupQ (q.2.1 ++ q'.2.1 ++ (q.2.2 ++ q'.2.2)) && inRw a (q.2.1 ++ q'.2.1 ++ (q.2.2 ++ q'.2.2)) then K q.1 q'.1 else False
            | .normal => resK E.P E.D fn.ntmps ro a fn.results.toList fun r => optK (gaths E.D (obS ro a) ro.cell rk r) fun q => optK (backT (obS ro a) (findN os) ro.cell pk ss) fun q' => optK (frzs (obS ro a) (q.2.2 ++ q'.2.2)) fun _ =>
                bif nodupQ (q.2.1 ++ q'.2.1 ++ (q.2.2 ++ q'.2.2)) && inRw a (q.2.1 ++ q'.2.1 ++ (q.2.2 ++ q'.2.2)) then K q.1 q'.1 else False
            | _ => False)
          { slots := frlS ss, objs := lockP cs os, next := nx } else False
    | _, _ => False)
  | none => False
end Go.Fx
end
