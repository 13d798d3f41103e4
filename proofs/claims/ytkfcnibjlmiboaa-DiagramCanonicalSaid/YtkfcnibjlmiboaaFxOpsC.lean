/- The effect-free operations do what their plain meaning says (the last of them). Conditions: those in the statements. -/
import Derived.Test.YtkfcnibjlmiboaaFxOpsB
namespace Go.Fx
open Go Go.RowKit Go.Fl Go.Fl.Lk
variable {S : Sig} {P : Program} {D : Shp S} {ν : Nm} {σ : Hv} {n : Nat} {f : Fr}
variable {w : World} {e : Operand → SV S} {ob : Nat → Option (AO S)} {lkc : Nat → Nat → SV S} {oh : Nat → HObj} {K : List Nat → SV S → Prop}

theorem mapM_fields {fs : Array Field} (hT : fs.toList.all (fun f => hasT P f.type) = true) (w : World) :
    (fs.mapM fun f => (do pure (f.offset, ← sizeOf f.type) : Sem (Nat × Nat))).run P w = .ok (fs.map fun f => (f.offset, szQ P f.type)) w := by
  have key : ∀ (l : List Field) (w : World), l.all (fun f => hasT P f.type) = true → (l.mapM fun f => (do pure (f.offset, ← sizeOf f.type) : Sem (Nat × Nat))).run P w = .ok (l.map fun f => (f.offset, szQ P f.type)) w := by
    intro l
    induction l with
    | nil => intro w _; rfl
    | cons x l ih =>
      intro w h
      obtain ⟨h1, h2⟩ : hasT P x.type = true ∧ l.all (fun f => hasT P f.type) = true := by simpa using h
      rw [List.mapM_cons]
      simp only [Sem.run_bind, run_szQ h1, Result.andThen_ok, Sem.run_pure, ih w h2, List.map_cons]
  have := key fs.toList w hT
  rw [Array.mapM_eq_mapM_toList, map_eq_pure_bind]
  simp only [Sem.run_bind, this, Result.andThen_ok, Sem.run_pure]
  congr 1
  apply Array.ext'
  simp

theorem p_build {t : TypeId} {parts : Array (Nat × Operand)} (k : Kn D ν σ n f w e ob lkc oh) (h : pureOp P D e ob lkc (.build t parts) K) : PureOk P D ν σ ob oh (ev n f) (.build t parts) K := by
  have zr : ∀ {z : Value}, (P.info? t).bind (·.zero) = some z → ∀ w, (zeroValue t).run P w = .ok z w := by
    intro z hz w
    obtain ⟨i, hi, hz⟩ := Option.bind_eq_some_iff.1 hz
    simp [zeroValue, typeInfo, hi, hz]
  have hparts : (parts.map fun (i, x) => (i, ev n f x)).toList = parts.toList.map fun q => (q.1, ev n f q.2) := by simp
  simp only [pureOp] at h
  split at h
  · rename_i fs z hu hz
    obtain ⟨hc, h⟩ := bif_f h
    obtain ⟨hz1, hT⟩ := and_b hc
    obtain ⟨l, hf, hK⟩ := optK_some h
    obtain ⟨cs', hr, hfill⟩ := fill_ok (D := D) (ν := ν) (σ := σ) (r := ev n f) k.e parts.toList _ _ _ (zero_row hz1) hf
    refine ⟨_, _, .agg cs'.toArray, hK, .agg cs' l hr.1 hr.2.1 hr.2.2, fun w oo ho _ _ => ?_⟩
    have hpl : (fun (i : Nat) => (fs.map fun f => (f.offset, szQ P f.type))[i]?) = fun i => (fs[i]?).map fun f => (f.offset, szQ P f.type) := by
      funext i; simp
    simp only [execOp, ho, Instr.build, Sem.run_bind, zr hz, Result.andThen_ok, run_underlying hu, mapM_fields hT, hparts, hpl]
    rw [Array.toArray_toList] at hfill
    rw [hfill]
    rfl
  · rename_i len el z hu hz
    obtain ⟨hc, h⟩ := bif_f h
    obtain ⟨hz1, hT⟩ := and_b hc
    obtain ⟨l, hf, hK⟩ := optK_some h
    obtain ⟨cs', hr, hfill⟩ := fill_ok (D := D) (ν := ν) (σ := σ) (r := ev n f) k.e parts.toList _ _ _ (zero_row hz1) hf
    refine ⟨_, _, .agg cs'.toArray, hK, .agg cs' l hr.1 hr.2.1 hr.2.2, fun w oo ho _ _ => ?_⟩
    simp only [execOp, ho, Instr.build, Sem.run_bind, zr hz, Result.andThen_ok, run_underlying hu, run_szQ hT, hparts]
    rw [Array.toArray_toList] at hfill
    rw [hfill]
    rfl
  · exact h.elim

theorem p_index {t : TypeId} {x j : Operand} (hD : D.Ok) (k : Kn D ν σ n f w e ob lkc oh) (h : pureOp P D e ob lkc (.index t x j) K) : PureOk P D ν σ ob oh (ev n f) (.index t x j) K := by
  simp only [pureOp] at h
  split at h
  case h_2 => exact h.elim
  rename_i i hj
  have hj' := rep_int (hj ▸ k.e j)
  split at h
  · rename_i len el T N l hu hx
    obtain ⟨hc, ⟨h0, h1⟩, h⟩ := bif_f h
    obtain ⟨hc, hN⟩ := and_b hc
    obtain ⟨hc, hsz⟩ := and_b hc
    obtain ⟨hT, hA⟩ := and_b hc
    have hA : aggQ P el = false := by simpa using hA
    have hN := Nat.eq_of_beq_eq_true hN
    have hsz := Nat.eq_of_beq_eq_true hsz
    have hr := hx ▸ k.e x
    generalize hvx : ev n f x = vx at hr
    cases hr with
    | arr cs _ _ _ hN' hl hrow =>
      obtain ⟨y, hy⟩ := getq (l := l) (k := i.toNat) (by omega)
      obtain ⟨s, hs, hK⟩ := optK_some (h y hy)
      obtain ⟨v, hv, _, hp⟩ := sub_ok (D := D) (ν := ν) ((hrow _ y hy).toS) hs
      refine ⟨_, _, v, hK, hv, fun w oo ho _ _ => ?_⟩
      have hlt : i.toNat * D.size T < cs.length := by
        rw [hl]
        have : i.toNat < l.length := by omega
        have h2 : (i.toNat + 1) * D.size T ≤ l.length * D.size T := Nat.mul_le_mul_right _ this
        rw [Nat.add_mul, Nat.one_mul] at h2
        have := hD.pos T
        omega
      have hpart : (part el cs.toArray (i.toNat * szQ P el)).run P w = .ok v w := by
        have := hp w
        simp only [part, Sem.run_bind, run_aggQ hT, Result.andThen_ok, hA, Bool.false_eq_true, if_false] at this ⊢
        have e1 : cs.toArray[i.toNat * szQ P el]? = ((cs.drop (i.toNat * D.size T)).take (D.size T)).toArray[0]? := by
          rw [hsz]
          simp only [List.getElem?_toArray]
          rw [List.getElem?_take, if_pos (hD.pos T)]
          simp
        rw [e1]; exact this
      have hb : 0 ≤ i ∧ i < (len : Int) := ⟨h0, h1⟩
      simp only [execOp, ho, hvx, hj', Instr.index, asIntOf, Sem.run_bind, Sem.run_pure, Result.andThen_ok, run_underlying hu, if_pos hb, run_szQ hT, hpart]
  · rename_i s hu hx
    obtain ⟨⟨h0, h1⟩, h⟩ := h
    have hlt : i.toNat < s.size := by omega
    obtain ⟨b, hb⟩ : ∃ b, s[i.toNat]? = some b := ⟨s[i.toNat], by simp [hlt]⟩
    refine ⟨_, _, _, h b hb, .f (.int .u8 _), fun w oo ho _ _ => ?_⟩
    simp [execOp, ho, rep_str (hx ▸ k.e x), hj', Instr.index, asIntOf, run_underlying hu, h0, hb]
  · exact h.elim

theorem vec_lenv {o : Nat} {v : Value} {a : AO S} {ety : TypeId} {T : S.C} {l : List (S.car T)} (k : Kn D ν σ n f w e ob lkc oh) (hν : ν o = some v) (ho : ob o = some a) (ha : a = .vec ety T l) : ∃ ad cap, v = .slice ad l.length cap ∧ l.length ≤ 140737488355328 := by
  subst ha
  obtain ⟨hR, hok⟩ := k.o o _ ho
  obtain ⟨v', xs, hν', hh, hE, hb⟩ := hR
  rw [hν] at hν'; cases hν'
  rw [hh] at hok
  obtain ⟨a, cap, hv⟩ := vec_any hok
  exact ⟨a, cap, hv, hb⟩

theorem p_len {args : Array Operand} {ts : Array TypeId} (hD : D.Ok) (k : Kn D ν σ n f w e ob lkc oh) (h : pureOp P D e ob lkc (.call ⟨.builtin .len, args, ts⟩) K) : PureOk P D ν σ ob oh (ev n f) (.call ⟨.builtin .len, args, ts⟩) K := by
  simp only [pureOp] at h
  split at h
  case h_2 => exact h.elim
  rename_i x t ha ht
  have ha' : args = #[x] := by apply Array.ext'; simpa using ha
  have ht' : ts = #[t] := by apply Array.ext'; simpa using ht
  subst ha' ht'
  have runS : ∀ (el : TypeId) (a : Option Addr) (len cap : Nat), P.underlying t = some (.slice el) → ev n f x = .slice a len cap → ∀ (w : World) (oo : Oper), oo.op = .call ⟨.builtin .len, #[x], #[t]⟩ → (execOp (ev n f) oo).run P w = .ok (.value (.int .i64 ((len : Nat) : Int))) w := by
    intro el a len cap hu hv w oo ho
    simp [execOp, ho, hv, resolve, invoke, builtin, Builtin.len_, run_underlying hu, goInt]
  have runT : ∀ (s : ByteArray), P.underlying t = some .string → ev n f x = .string s → ∀ (w : World) (oo : Oper), oo.op = .call ⟨.builtin .len, #[x], #[t]⟩ → (execOp (ev n f) oo).run P w = .ok (.value (.int .i64 ((s.size : Nat) : Int))) w := by
    intro s hu hv w oo ho
    simp [execOp, ho, hv, resolve, invoke, builtin, Builtin.len_, run_underlying hu, goInt]
  have hx := k.e x
  split at h
  · rename_i el hu
    generalize hvx : ev n f x = vx at hx
    generalize e x = sx at h hx
    cases hx with
    | f hf =>
      cases hf with
      | sl T l a cap c h1 h2 h3 h4 => exact ⟨_, _, _, h (by omega), .f (.int _ _), fun w oo ho _ _ => runS el a _ cap hu hvx w oo ho⟩
      | nils => exact ⟨_, _, _, h, .f (.int _ _), fun w oo ho _ _ => runS el none 0 0 hu hvx w oo ho⟩
      | _ => exact h.elim
    | hnd o v hν h1 =>
      simp only [lenS] at h
      cases ho : ob o with
      | none => rw [ho] at h; exact h.elim
      | some a =>
        rw [ho] at h
        cases a with
        | vec ety T l =>
          obtain ⟨ad, cap, hv, hb⟩ := vec_lenv k hν ho rfl
          exact ⟨_, _, _, h (by omega), .f (.int _ _), fun w oo hoo _ _ => runS el ad _ cap hu (hvx.trans hv) w oo hoo⟩
        | frz T l =>
          obtain ⟨hR, _⟩ := k.o o _ ho
          obtain ⟨v', hν', _, hr⟩ := hR
          rw [hν] at hν'; cases hν'
          obtain ⟨ad, cap, hv, h1, h2, _⟩ := hr.toRSl hD
          exact ⟨_, _, _, h (by omega), .f (.int _ _), fun w oo hoo _ _ => runS el ad _ cap hu (hvx.trans hv) w oo hoo⟩
        | _ => exact h.elim
    | _ => exact h.elim
  · rename_i hu
    split at h
    · rename_i s hs
      exact ⟨_, _, _, h, .f (.int _ _), fun w oo ho _ _ => runT s hu (rep_str (hs ▸ hx)) w oo ho⟩
    · exact h.elim
  · exact h.elim

theorem p_min {args : Array Operand} {ts : Array TypeId} (k : Kn D ν σ n f w e ob lkc oh) (h : pureOp P D e ob lkc (.call ⟨.builtin .min, args, ts⟩) K) : PureOk P D ν σ ob oh (ev n f) (.call ⟨.builtin .min, args, ts⟩) K := by
  have hm : ∀ a b : Int, min a b = (if b < a then b else a) := by intro a b; omega
  simp only [pureOp] at h
  split at h
  · rename_i x y ha
    have ha' : args = #[x, y] := by apply Array.ext'; simpa using ha
    subst ha'
    split at h
    case h_2 => exact h.elim
    rename_i k1 a k2 b hx hy
    obtain ⟨hk, h⟩ := bif_f h
    exact ⟨_, _, _, h, .f (.int _ _), fun w oo ho _ _ => by simp [execOp, ho, rep_int (hx ▸ k.e x), rep_int (hy ▸ k.e y), resolve, invoke, builtin, Builtin.min_, Builtin.min2, hm]⟩
  · rename_i x y z ha
    have ha' : args = #[x, y, z] := by apply Array.ext'; simpa using ha
    subst ha'
    split at h
    case h_2 => exact h.elim
    rename_i k1 a k2 b k3 c hx hy hz
    obtain ⟨hk, h⟩ := bif_f h
    exact ⟨_, _, _, h, .f (.int _ _), fun w oo ho _ _ => by simp [execOp, ho, rep_int (hx ▸ k.e x), rep_int (hy ▸ k.e y), rep_int (hz ▸ k.e z), resolve, invoke, builtin, Builtin.min_, Builtin.min2, hm]⟩
  · exact h.elim
theorem p_max {args : Array Operand} {ts : Array TypeId} (k : Kn D ν σ n f w e ob lkc oh) (h : pureOp P D e ob lkc (.call ⟨.builtin .max, args, ts⟩) K) : PureOk P D ν σ ob oh (ev n f) (.call ⟨.builtin .max, args, ts⟩) K := by
  have hm : ∀ a b : Int, max a b = (if b > a then b else a) := by intro a b; omega
  simp only [pureOp] at h
  split at h
  · rename_i x y ha
    have ha' : args = #[x, y] := by apply Array.ext'; simpa using ha
    subst ha'
    split at h
    case h_2 => exact h.elim
    rename_i k1 a k2 b hx hy
    obtain ⟨hk, h⟩ := bif_f h
    exact ⟨_, _, _, h, .f (.int _ _), fun w oo ho _ _ => by simp [execOp, ho, rep_int (hx ▸ k.e x), rep_int (hy ▸ k.e y), resolve, invoke, builtin, Builtin.max_, Builtin.max2, hm]⟩
  · exact h.elim

/-- A bound of a slice expression. -/
theorem bnd_ok {lo : Option Operand} {z : Int} {i : Int} (k : Kn D ν σ n f w e ob lkc oh) (h : (match lo with | none => some z | some o => match e o with | .f (.int .i64 i) => some i | _ => none) = some i) :
    (lo = none ∧ i = z) ∨ ∃ o, lo = some o ∧ ev n f o = .int .i64 i := by
  cases lo with
  | none => cases h; exact .inl ⟨rfl, rfl⟩
  | some o =>
    simp only at h
    split at h
    · rename_i j hj
      cases h
      exact .inr ⟨o, rfl, rep_int (hj ▸ k.e o)⟩
    · cases h

theorem RSl.drop' {α : Type} {size : Nat} {R : Hv → List Value → α → Prop} {a : Option Addr} {len cap : Nat} {l : List α} (h : RSl size R σ (.slice a len cap) l) (k : Nat) (hk : k ≤ l.length) :
    RSl size R σ (.slice (if cap = k then a else a.map (·.add (k * size))) (len - k) (cap - k)) (l.drop k) := by
  obtain ⟨a', cap', h1, h2, h3, h4⟩ := h
  cases h1
  refine ⟨_, cap - k, by rw [List.length_drop], by rw [List.length_drop]; omega, by rw [List.length_drop]; omega, fun i x hx => ?_⟩
  rw [List.getElem?_drop] at hx
  obtain ⟨ad, cs, rfl, hl, hr, hR⟩ := h4 _ x hx
  have hlt := lt_of_getq hx
  rw [if_neg (by omega)]
  refine ⟨_, cs, rfl, hl, ?_, hR⟩
  rw [addr_add, ← Nat.add_mul]
  exact hr

theorem p_slice {t : TypeId} {x : Operand} {lo hi : Option Operand} (hD : D.Ok) (k : Kn D ν σ n f w e ob lkc oh) (h : pureOp P D e ob lkc (.slice t x lo hi none) K) : PureOk P D ν σ ob oh (ev n f) (.slice t x lo hi none) K := by
  simp only [pureOp] at h
  split at h
  · rename_i hu
    split at h
    case h_2 => exact h.elim
    rename_i s hx
    split at h
    case h_2 => exact h.elim
    rename_i l r hl hr
    obtain ⟨⟨h0, h1, h2⟩, h⟩ := h
    have hb : ∀ w, (Instr.sliceBounds false s.size s.size (lo.map (ev n f)) (hi.map (ev n f)) none).run P w = .ok (l.toNat, r.toNat, s.size) w := by
      intro w
      have e2 : 0 ≤ r := by omega
      have e3 : max r 0 = r := by omega
      rcases bnd_ok k hl with ⟨rfl, rfl⟩ | ⟨o, rfl, ho⟩ <;> rcases bnd_ok k hr with ⟨rfl, rfl⟩ | ⟨o', rfl, ho'⟩ <;> clear hl hr <;>
        simp_all [Instr.sliceBounds, Instr.sliceBound, asIntOf]
    exact ⟨_, _, _, h, .f (.str _), fun w oo ho _ _ => by
      simp [execOp, ho, rep_str (hx ▸ k.e x), Instr.sliceAt, run_underlying hu, Instr.slice, hb]⟩
  · rename_i el hu
    split at h
    case h_2 => exact h.elim
    rename_i T li hl
    obtain ⟨hc, h⟩ := bif_f h
    obtain ⟨hT, hsz⟩ := and_b hc
    have hsz := Nat.eq_of_beq_eq_true hsz
    split at h
    case h_2 => exact h.elim
    rename_i l r hlo hhi
    obtain ⟨⟨h0, h1, h2⟩, h⟩ := h
    have hrep := (lst_ok k hl).toRSl hD
    obtain ⟨a, cap, hv, hcap, _⟩ := id hrep
    rw [hv] at hrep
    have hb : ∀ w, (Instr.sliceBounds true li.length cap (lo.map (ev n f)) (hi.map (ev n f)) none).run P w = .ok (l.toNat, r.toNat, cap) w := by
      intro w
      have e1 : r ≤ (cap : Int) := by omega
      have e2 : 0 ≤ r := by omega
      have e3 : max r 0 = r := by omega
      clear hrep hv hl
      rcases bnd_ok k hlo with ⟨rfl, rfl⟩ | ⟨o, rfl, ho⟩ <;> rcases bnd_ok k hhi with ⟨rfl, rfl⟩ | ⟨o', rfl, ho'⟩ <;> clear hlo hhi <;>
        simp_all [Instr.sliceBounds, Instr.sliceBound, asIntOf]
    have h3 := RSl.drop' (RSl.take hrep r.toNat (by omega)) l.toNat (by simp only [List.length_take]; omega)
    refine ⟨_, _, _, h, .f (RepF.ofRSl hD h3), fun w oo ho _ _ => ?_⟩
    simp [execOp, ho, hv, Instr.sliceAt, run_underlying hu, Instr.slice, hb, run_szQ hT, hsz]
  · exact h.elim

theorem keyF_val {x : FV S} {v : Value} (h : RepF D σ v x) (hk : keyF x = true) : v = valF x := by
  cases h <;> first | rfl | cases hk
theorem row_val {cs : List Value} {ss : List (FV S)} (h : RowF D σ cs ss) (hk : ss.all keyF = true) : cs = ss.map valF := by
  apply List.ext_getElem?
  intro i
  rw [List.getElem?_map]
  rcases hq : ss[i]? with _ | x
  · have : ss.length ≤ i := List.getElem?_eq_none_iff.1 hq
    rw [List.getElem?_eq_none (by rw [h.1]; exact this)]; rfl
  · obtain ⟨v, hv⟩ := getq (l := cs) (k := i) (by rw [h.1]; exact lt_of_getq hq)
    rw [hv, keyF_val (h.2 i v x hv hq) ((List.all_eq_true.1 hk) x (List.mem_of_getElem? hq))]
    rfl
/-- The cells of a value that must be frozen first or are so. -/
theorem toF_ok {s : SV S} {v : Value} {x : FV S} {fz : List Nat} (hD : D.Ok) (ho : ∀ o a, ob o = some a → ORep D ν σ lkc o a (oh o)) (hs : SRep D ν σ v s) (h : toF ob s = some (x, fz)) :
    (fz = [] ∧ RepF D σ v x) ∨ ∃ o e T l, fz = [o] ∧ x = .sl T l ∧ ob o = some (.vec e T l) ∧ ν o = some v := by
  have _ := hD
  cases hs with
  | f hf => cases h; exact .inl ⟨rfl, hf⟩
  | lit b => cases h; exact .inl ⟨rfl, .bool b⟩
  | pb p d => cases h; exact .inl ⟨rfl, .bool _⟩
  | pbn p d => cases h; exact .inl ⟨rfl, .bool _⟩
  | hnd o v hν h1 =>
    simp only [toF] at h
    cases hq : ob o with
    | none => rw [hq] at h; cases h
    | some a =>
      rw [hq] at h
      cases a with
      | vec e T l => cases h; exact .inr ⟨o, e, T, l, rfl, rfl, hq, hν⟩
      | frz T l =>
        cases h
        obtain ⟨v', hν', _, hr⟩ := ho o _ hq
        rw [hν] at hν'; cases hν'
        exact .inl ⟨rfl, hr⟩
      | _ => cases h
  | _ => cases h
theorem toFs_nil {ss : List (SV S)} {cs : List Value} {xs : List (FV S)} (hD : D.Ok) (ho : ∀ o a, ob o = some a → ORep D ν σ lkc o a (oh o)) (hs : RowS D ν σ cs ss) (h : toFs ob ss = some (xs, [])) : RowF D σ cs xs := by
  induction ss generalizing cs xs with
  | nil => cases h; exact ⟨hs.1, fun j v s hj hk => by cases hk⟩
  | cons s ss ih =>
    cases cs with
    | nil => have := hs.1; cases this
    | cons c cs =>
      simp only [toFs] at h
      split at h
      case h_2 => cases h
      rename_i x a hx
      split at h
      case h_2 => cases h
      rename_i xs' b hxs
      injection h with h
      injection h with h0 hab
      subst h0
      obtain ⟨rfl, rfl⟩ : a = [] ∧ b = [] := by simpa using hab
      have h1 := toF_ok hD ho (hs.2.1 0 c s rfl rfl) hx
      have h2 := ih (cs := cs) ⟨by have := hs.1; simpa using this, fun j v s hj hk => hs.2.1 (j + 1) v s (by simpa using hj) (by simpa using hk), fun v hv => hs.2.2 v (by simp [hv])⟩ hxs
      rcases h1 with ⟨_, h1⟩ | ⟨_, _, _, _, h0, _⟩
      · refine ⟨by simp [h2.1], fun j v s hj hk => ?_⟩
        cases j with
        | zero => cases hj; cases hk; exact h1
        | succ j => exact h2.2 j v s (by simpa using hj) (by simpa using hk)
      · cases h0
theorem keyS_cells {s : SV S} {l : List (SV S)} (h : keyS s = some l) : cellsS s = some l := by
  unfold keyS at h
  split at h
  · exact h
  · cases h
  · exact h
theorem asV_cells {D : Shp S} {ν : Nm} {σ : Hv} {v : Value} {s : SV S} {l : List (SV S)} (hs : SRep D ν σ v s) (h : keyS s = some l) : v = asV v.cells.toList := by
  cases hs with
  | agg cs ss hl h' h1 =>
    match ss, h, hl with
    | a :: b :: ss, _, hl =>
      match cs, hl with
      | u :: u' :: cs, _ => rfl
  | f hf => rw [hf.cells]; rfl
  | tup => cases h
  | arr => cases h
  | dead => cases h
  | und => cases h
  | hnd o v hν h1 =>
    have : v.cells = #[v] := by cases v <;> first | rfl | cases h1
    rw [this]; rfl
  | _ => rfl
theorem withMap_ok {K V K' V' : S.C} {F : S.car K → Option (S.car V)} {k : (S.car K' → Option (S.car V')) → Prop} (h : withMap K V F K' V' k) : ∃ (e1 : K = K') (e2 : V = V'), k (e1 ▸ e2 ▸ F) := by
  unfold withMap at h
  split at h
  · exact ⟨_, _, h⟩
  · exact h.elim

theorem p_lookup {t : TypeId} {m x : Operand} {okk : Bool} (hP : D.OkP P) (k : Kn D ν σ n f w e ob lkc oh) (h : pureOp P D e ob lkc (.lookup t m x okk) K) : PureOk P D ν σ ob oh (ev n f) (.lookup t m x okk) K := by
  simp only [pureOp] at h
  split at h
  case h_2 => exact h.elim
  rename_i Kc V kt0 et0 o hmc hu hm
  obtain ⟨kt, et, hu', hK, hkey, hT, hA, hsz, z, hz, hzr⟩ := hP.map _ _ _ hmc
  rw [hu] at hu'; cases hu'
  split at h
  case h_2 => exact h.elim
  rename_i K' V' F ks ho hks
  obtain ⟨q, hq, h⟩ := optK_some h
  obtain ⟨hnil, h⟩ := bif_f h
  obtain ⟨ky, hky, h⟩ := optK_some h
  obtain ⟨e1, e2, h⟩ := withMap_ok h
  subst e1 e2
  obtain ⟨s, hs, hK2⟩ := optK_some h
  obtain ⟨xs, fz⟩ := q
  have hfz : fz = [] := by simpa using hnil
  subst hfz
  obtain ⟨hR, hok⟩ := k.o o _ ho
  obtain ⟨b, mm, hν, hh, hF⟩ := hR
  have hor : ∀ o a, ob o = some a → ORep D ν σ lkc o a (oh o) := fun o a h => (k.o o a h).1
  have hrow := toFs_nil hP.ok hor (cellsS_ok (k.e x) (keyS_cells hks)) hq
  have hrow2 := hP.ok.bld _ _ _ _ _ hky hrow
  have hval := row_val hrow2 (hkey ky)
  have hxv : ev n f x = kenc D K' ky := by
    unfold kenc
    rw [← hval]
    exact asV_cells (k.e x) hks
  have hmv : ev n f m = .map (some b) := rep_hnd (hm ▸ k.e m) hν
  have hel : ElV D σ V' ((mm ky).getD z) ((F ky).getD (D.zero V')) := ORel.getD (hF ky) (hzr σ)
  obtain ⟨cs, hcs, hv⟩ := hel
  obtain ⟨v, hv', hl, hp⟩ := sub_ok (D := D) (ν := ν) (hcs.toS) hs
  have hvv : v = (mm ky).getD z := by
    have h1 := hp w
    simp only [part, Sem.run_bind, run_aggQ hT, Result.andThen_ok, hA] at h1
    rw [hv]
    have hlen : cs.length = D.size V' := by rw [hcs.1, hP.ok.len]
    cases hb : Nat.beq (D.size V') 1 with
    | true =>
      have hb' := Nat.eq_of_beq_eq_true hb
      match cs, hlen.trans hb' with
      | [u], _ =>
        simp only [hb, Bool.not_true, Bool.false_eq_true, if_false] at h1
        simp at h1
        exact h1.symm
    | false =>
      have hb' : D.size V' ≠ 1 := fun he => by rw [he] at hb; cases hb
      simp only [hb, Bool.not_false, if_true, Sem.run_bind, run_szQ hT, hsz, Result.andThen_ok, Sem.run_pure] at h1
      have h2 : v = .agg (cs.toArray.extract 0 (0 + D.size V')) := by cases h1; rfl
      rw [h2, ← hlen]
      have h3 : cs.toArray.extract 0 (0 + cs.length) = cs.toArray := by simp
      rw [h3]
      match cs, hlen with
      | [], _ => rfl
      | [u], hl => exact absurd hl.symm hb'
      | u :: u' :: cs, _ => rfl
  have hor2 : (mm ky).isSome = (F ky).isSome := ORel.isSome (hF ky)
  cases okk with
  | true =>
    refine ⟨_, _, .tuple #[v, .bool (F ky).isSome], hK2, .tup [v, .bool (F ky).isSome] _ rfl (fun j u s' hj hs' => ?_), fun w oo hoo _ hrd => ?_⟩
    · match j with
      | 0 => cases hj; cases hs'; exact hv'
      | 1 => cases hj; cases hs'; exact .f (.bool _)
      | j + 2 => cases hj
    · have hokw := hrd o (by simp) _ ho
      rw [hh] at hokw
      simp [execOp, hoo, hmv, hxv, run_lookK hK hu hz hokw true, hvv, hor2]
  | false =>
    refine ⟨_, _, v, hK2, hv', fun w oo hoo _ hrd => ?_⟩
    have hokw := hrd o (by simp) _ ho
    rw [hh] at hokw
    simp [execOp, hoo, hmv, hxv, run_lookK hK hu hz hokw false, hvv]

theorem svOf_ok {cs : List Value} {l : List (FV S)} (h : RowF D σ cs l) : SRep D ν σ (asV cs) (svOf l) := by
  match l, cs, h with
  | [x], [c], h => exact .f (h.2 0 c x rfl rfl)
  | [], [], h => exact .agg [] [] rfl (fun j v s hj => by cases hj) (by simp)
  | x :: y :: l, c :: d :: cs, h =>
    have := h.toS (ν := ν)
    exact .agg _ _ this.1 this.2.1 this.2.2
  | [], _ :: _, h => have := h.1; simp at this
  | [_], [], h => have := h.1; simp at this
  | [_], _ :: _ :: _, h => have := h.1; simp at this
  | _ :: _ :: _, [], h => have := h.1; simp at this
  | _ :: _ :: _, [_], h => have := h.1; simp at this
theorem key_row {l : List (FV S)} (h : l.all keyF = true) : RowF D σ (l.map valF) l := by
  refine ⟨by simp, fun j v s hj hs => ?_⟩
  rw [List.getElem?_map, hs] at hj
  cases hj
  have := List.all_eq_true.1 h s (List.mem_of_getElem? hs)
  cases s <;> simp [keyF] at this <;> constructor
theorem p_entry {x : Operand} (k : Kn D ν σ n f w e ob lkc oh) (h : pureOp P D e ob lkc (.entry x) K) : PureOk P D ν σ ob oh (ev n f) (.entry x) K := by
  simp only [pureOp] at h
  split at h
  case h_2 => exact h.elim
  rename_i o hx
  split at h
  case h_2 => exact h.elim
  rename_i Kc V F done ky y ho
  obtain ⟨hR, hok⟩ := k.o o _ ho
  obtain ⟨r, b, es, clock, cv, hν, hh, hb, hK, hM, hF, hkey, hinj, hcur⟩ := hR
  obtain ⟨v, hcv, cs, hcs, hv⟩ := hcur ky y rfl
  have hxv : ev n f x = .pointer (some ⟨r, 0, none⟩) := by
    have hx' := k.e x
    rw [hx] at hx'
    generalize ev n f x = u at hx'
    cases hx' with
    | ref _ _ b' h' => rw [hν] at h'; cases h'; rfl
  refine ⟨_, _, .tuple #[kenc D Kc ky, v], h, .tup [kenc D Kc ky, v] _ rfl (fun j u s' hj hs' => ?_), fun w oo hoo hV hrd => ?_⟩
  · match j with
    | 0 => cases hj; cases hs'; exact svOf_ok (key_row (hkey ky))
    | 1 => cases hj; cases hs'; rw [hv]; exact svOf_ok hcs
    | j + 2 => cases hj
  · have hokw := hrd o (by simp) _ ho
    rw [hh] at hokw
    obtain ⟨seen, k1, k2, k3⟩ := hokw
    obtain ⟨s0, e', rfl, he, hk, hv'⟩ := k3 _ hcv
    have := run_entry_at (P := P) w r b clock s0 es clock e' k1 (hV _ _ hb) he hM.2.1
    rw [hk, hv'] at this
    simp only [execOp, hoo, hxv, Sem.run_bind, this, Result.andThen_ok]
    rfl
theorem pure_ok {o : Op} (hP : D.OkP P) (k : Kn D ν σ n f w e ob lkc oh) (h : pureOp P D e ob lkc o K) : PureOk P D ν σ ob oh (ev n f) o K := by
  have hD := hP.ok
  unfold pureOp at h
  split at h
  · exact ⟨_, _, _, h, k.e _, fun w oo ho _ _ => by simp [execOp, ho]⟩
  · exact ⟨_, _, _, h, k.e _, fun w oo ho _ _ => by simp [execOp, ho]⟩
  · exact p_pick k h
  · exact p_load k h
  · exact p_fieldAddr k h
  · exact p_nilCheck k h
  · exact p_indexAddr hD k h
  · exact p_field k h
  · exact p_index hD k h
  · exact p_extract k h
  · exact p_makeFunc k h
  · exact p_binOp hD k h
  · exact p_not k h
  · exact p_neg k h
  · exact p_convert k h
  · exact p_build k h
  · exact p_slice hD k h
  · exact p_len hD k h
  · exact p_min k h
  · exact p_max k h
  · exact p_lookup hP k h
  · exact p_entry k h
  · exact h.elim
#print axioms pure_ok
end Go.Fx
