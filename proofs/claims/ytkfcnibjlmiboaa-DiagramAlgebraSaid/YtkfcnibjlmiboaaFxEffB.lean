/- The operations with an effect do what their plain meaning says (the rest of them). Conditions: those in the statements. -/
import Derived.Test.YtkfcnibjlmiboaaFxEff
namespace Go.Fx
open Go Go.RowKit Go.Fl Go.Fl.Lk
variable {S : Sig} {P : Program} {D : Shp S} {ν ν' : Nm} {σ τ : Hv} {n : Nat} {f : Fr}
variable {w : World} {e : Operand → SV S} {ob : Nat → Option (AO S)} {lkc : Nat → Nat → SV S} {oh : Nat → HObj} {c : Cx}
variable {nx : Nat} {K : List Nat → List (Nat × AO S) → Option (SV S) → Prop}

theorem e_makeMap {t : TypeId} (hnx : ν nx = none) (h : effOp P D e ob nx (.makeMap t none) K) : EffOk P D ν σ w ob lkc nx (ev n f) (.makeMap t none) K := by
  simp only [effOp] at h
  split at h
  case h_2 => exact h.elim
  rename_i Kc V hmc
  refine ⟨_, _, _, [], h, rfl, List.nodup_nil, by simp, fun ins ho hS oo hoo => ?_⟩
  cases ins with
  | cons => exact ho.elim
  | nil =>
    refine ⟨w.alloc (.map #[] 0), σ, ν.add nx (.map (some w.heap.size)), [smapK (kenc D Kc) w.heap.size fun _ => none], .value (.map (some w.heap.size)), by simp [execOp, hoo, Instr.makeMap], Nm.add_ext hnx, Nm.add_new,
      hS.add (alloc_keeps w _) ⟨#[], 0, ?_, by simp [KeysOf], fun k => rfl, by simp [MBk]⟩ (by rintro k ⟨⟩; exact Nat.le_refl _), ⟨⟨_, _, Nm.add_self, rfl, fun k => trivial⟩, trivial⟩, ⟨_, rfl, .hnd nx _ Nm.add_self rfl⟩⟩
    exact heap_alloc_new _ _

theorem e_mapUpdate {t : TypeId} {m x v : Operand} (hP : D.OkP P) (k : Kn D ν σ n f w e ob lkc oh) (h : effOp P D e ob nx (.mapUpdate t m x v) K) : EffOk P D ν σ w ob lkc nx (ev n f) (.mapUpdate t m x v) K := by
  have hD := hP.ok
  have hor : ∀ o a, ob o = some a → ORep D ν σ lkc o a (oh o) := fun o a h => (k.o o a h).1
  simp only [effOp] at h
  split at h
  case h_2 => exact h.elim
  rename_i Kc V o ks vs hmc hm hks hvs
  obtain ⟨kt, et, hu, hK, hkey, hT, hA, hsz, z, hz, hzr⟩ := hP.map _ _ _ hmc
  split at h
  case h_2 => exact h.elim
  rename_i K' V' F hob
  obtain ⟨q, hq, h⟩ := optK_some h
  obtain ⟨q', hq', h⟩ := optK_some h
  obtain ⟨fz, hfz, h⟩ := optK_some h
  obtain ⟨hc, h⟩ := bif_f h
  obtain ⟨h0, h1⟩ := and_b hc
  obtain ⟨ky, hky, h⟩ := optK_some h
  obtain ⟨y, hy, h⟩ := optK_some h
  obtain ⟨e1, e2, hfin⟩ := withMap_ok h
  clear h
  subst e1 e2
  obtain ⟨xs, fx⟩ := q
  obtain ⟨ys, fn⟩ := q'
  have hfx : fx = [] := by simpa using h0
  subst hfx
  obtain ⟨tlo, ht1, ht2, ht3, _⟩ := frzs_spec hfz
  have hno : o ∉ fn := hasN_mem (by simpa using h1)
  refine ⟨_, _, _, (o, .map K' V' F) :: tlo, hfin, by simp [ht1], List.nodup_cons.2 ⟨hno, ht2⟩, ?_, fun ins ho hS oo hoo => ?_⟩
  · intro q hq
    rcases List.mem_cons.1 hq with rfl | hq
    · exact hob
    · exact ht3 q hq
  match ins, ho with
  | mo :: ins, ho =>
    obtain ⟨b, mm, hν, hmo, hF⟩ := ho.1
    subst hmo
    obtain ⟨σ1, ms1, hS1, hs1, ho1⟩ := freeze_all (ms := [smapK (kenc D K') b mm]) hD hfz ht1 ht3 ho.2 hS
    have hrow := toFs_nil hD hor (cellsS_ok (k.e x) (keyS_cells hks)) hq
    have hrow2 := hD.bld _ _ _ _ _ hky hrow
    have hxv : ev n f x = kenc D K' ky := by
      unfold kenc
      rw [← row_val hrow2 (hkey ky)]
      exact asV_cells (k.e x) hks
    have hmv : ev n f m = .map (some b) := rep_hnd (hm ▸ k.e m) hν
    have hvr := toFs_ok hD hor hs1 (cellsS_ok (k.e v) (keyS_cells hvs)) hq' (frz_rep hfz ho1)
    have hvr2 := hD.bld _ _ _ _ _ hy hvr
    have hvv := asV_cells (k.e v) hvs
    obtain ⟨w', hrun, hkeep, hok⟩ := run_putK (k := ky) (v := ev n f v) hK hu (hS1.get (i := 0) rfl)
    refine ⟨w', σ1, ν, _, _, by simp only [execOp, hoo, hmv, hxv, Sem.run_bind, hrun, Result.andThen_ok]; rfl, Ext.refl ν, fun m u hu => .inl hu, step1 hS1 hkeep hok rfl, ⟨⟨b, _, hν, rfl, fun k' => ?_⟩, ho1⟩, rfl⟩
    unfold put
    by_cases hk : k' = ky
    · rw [if_pos hk, if_pos hk]
      exact ⟨_, hvr2, hvv⟩
    · rw [if_neg hk, if_neg hk]
      exact (hF k').imp fun v y h => h.mono hs1

/-- The elements of a literal, laid after one another. -/
theorem lit_ok {T : S.C} (hD : D.Ok) (hor : ∀ o a, ob o = some a → ORep D ν σ lkc o a (oh o)) (hs' : Sub σ τ) : ∀ {vs : List Value} {ss : List (SV S)} {l : List (S.car T)} {fn : List Nat}, vs.length = ss.length →
    (∀ (j : Nat) v s, vs[j]? = some v → ss[j]? = some s → SRep D ν σ v s) → litEls D ob T ss = some (l, fn) → (∀ o e T l v, o ∈ fn → ob o = some (.vec e T l) → ν o = some v → RepF D τ v (.sl T l)) →
    Els D τ T (vs.flatMap fun v => v.cells.toList) l ∧ l.length = vs.length ∧ ∀ v ∈ vs, v.cells.toList.length = D.size T ∧ ∀ u ∈ v.cells.toList, u.oneCell' = true := by
  intro vs
  induction vs with
  | nil =>
    intro ss l fn hl _ h _
    cases ss with
    | cons => cases hl
    | nil => cases h; exact ⟨⟨by simp, fun i x hx => by simp at hx⟩, rfl, by simp⟩
  | cons v vs ih =>
    intro ss l fn hl hr h hf
    cases ss with
    | nil => cases hl
    | cons s ss =>
      simp only [litEls] at h
      split at h
      case h_2 => cases h
      rename_i cs hcs
      split at h
      case h_2 => cases h
      rename_i xs a hxs
      split at h
      case h_2 => cases h
      rename_i y ys b hy hys
      cases h
      have hc := cellsS_ok (hr 0 v s rfl rfl) hcs
      have hrow := toFs_ok hD hor hs' hc hxs (fun o e T l v hm => hf o e T l v (by simp [hm]))
      have hrow2 := hD.bld _ _ _ _ _ hy hrow
      have hlen : v.cells.toList.length = D.size T := by rw [hrow2.1, hD.len]
      obtain ⟨h1, h2, h3⟩ := ih (ss := ss) (by simpa using hl) (fun j v s hj hk => hr (j + 1) v s (by simpa using hj) (by simpa using hk)) hys (fun o e T l v hm => hf o e T l v (by simp [hm]))
      refine ⟨⟨?_, fun i x hx => ?_⟩, by simp [h2], ?_⟩
      · have := h1.1
        rw [List.flatMap_cons, List.length_append, hlen, this, List.length_cons, Nat.add_mul, Nat.one_mul, Nat.add_comm]
      · rw [List.flatMap_cons]
        cases i with
        | zero =>
          cases hx
          rw [Nat.zero_mul, List.drop_zero, List.take_append_of_le_length (by omega), List.take_of_length_le (by omega)]
          exact hrow2
        | succ i =>
          rw [Nat.add_mul, Nat.one_mul, Nat.add_comm, ← List.drop_drop, List.drop_left' hlen]
          exact h1.2 i x (by simpa using hx)
      · intro u hu
        rcases List.mem_cons.1 hu with rfl | hu
        · exact ⟨hlen, hc.2.2⟩
        · exact h3 u hu

/-- A literal whose parts come in order fills its row. -/
theorem fill_lit {sz : Nat} {r : Operand → Value} : ∀ (parts : List (Nat × Operand)) (i : Nat) (done rest : List Value), inOrder i parts = true → done.length = i * sz → (∀ q ∈ parts, (r q.2).cells.toList.length = sz) → rest.length = parts.length * sz →
    Instr.fill (fun i => some (i * sz, sz)) (done ++ rest).toArray (parts.map fun q => (q.1, r q.2)) = some (done ++ (parts.flatMap fun q => (r q.2).cells.toList)).toArray := by
  intro parts
  induction parts with
  | nil =>
    intro i done rest _ _ _ hr
    have : rest = [] := List.eq_nil_of_length_eq_zero (by simpa using hr)
    subst this
    rfl
  | cons q parts ih =>
    intro i done rest hi hd hs hr
    obtain ⟨j, x⟩ := q
    simp only [inOrder] at hi
    obtain ⟨h1, h2⟩ := and_b hi
    have h1 := Nat.eq_of_beq_eq_true h1
    subst h1
    have hx := hs (i, x) (by simp)
    simp only at hx
    rw [List.length_cons, Nat.add_mul, Nat.one_mul] at hr
    rw [List.map_cons, Instr.fill]
    simp only
    have hsz : (r x).cells.size = sz := by rw [← Array.length_toList, hx]
    rw [if_neg (by simp only [hsz, ne_eq, not_true_eq_false, decide_false, Bool.false_or, decide_eq_true_eq, List.size_toArray, List.length_append]; omega)]
    have h3 := setCells_eq (r x).cells.toList (done ++ rest) (i * sz) (by rw [hx, List.length_append]; omega)
    have e1 : (done ++ rest).take (i * sz) = done := by rw [← hd]; simp
    have e2 : (done ++ rest).drop (i * sz + (r x).cells.toList.length) = rest.drop sz := by rw [← hd, hx, ← List.drop_drop]; simp
    rw [e1, e2] at h3
    have h4 : (r x).cells.zipIdx.foldl (fun cs (q : Value × Nat) => cs.setIfInBounds (i * sz + q.2) q.1) (done ++ rest).toArray = ((done ++ (r x).cells.toList) ++ rest.drop sz).toArray := by
      rw [← h3, ← Array.foldl_toList, Array.toList_zipIdx]
    have h5 := ih (i + 1) (done ++ (r x).cells.toList) (rest.drop sz) h2 (by rw [List.length_append, hd, hx, Nat.add_mul, Nat.one_mul]) (fun q hq => hs q (by simp [hq])) (by rw [List.length_drop, hr]; omega)
    rw [← h4] at h5
    rw [h5, List.flatMap_cons, List.append_assoc]

theorem e_buildSlice {t : TypeId} {len : Nat} {parts : Array (Nat × Operand)} (hP : D.OkP P) (hnx : ν nx = none) (k : Kn D ν σ n f w e ob lkc oh) (h : effOp P D e ob nx (.buildSlice t len parts) K) : EffOk P D ν σ w ob lkc nx (ev n f) (.buildSlice t len parts) K := by
  have hD := hP.ok
  have hor : ∀ o a, ob o = some a → ORep D ν σ lkc o a (oh o) := fun o a h => (k.o o a h).1
  simp only [effOp] at h
  split at h
  case h_2 => exact h.elim
  rename_i el hu
  split at h
  case h_2 => exact h.elim
  rename_i T hcode
  obtain ⟨hc, h⟩ := bif_f h
  obtain ⟨hc, h6⟩ := and_b hc
  obtain ⟨hc, h5⟩ := and_b hc
  obtain ⟨hc, h4⟩ := and_b hc
  obtain ⟨hc, h3⟩ := and_b hc
  obtain ⟨h1, h2⟩ := and_b hc
  have h2 := Nat.eq_of_beq_eq_true h2
  have h4 := Nat.eq_of_beq_eq_true h4
  have h5 := Nat.le_of_ble_eq_true h5
  obtain ⟨q, hq, h⟩ := optK_some h
  obtain ⟨fz, hfz, h⟩ := optK_some h
  obtain ⟨l, fn⟩ := q
  obtain ⟨tlo, ht1, ht2, ht3, _⟩ := frzs_spec hfz
  refine ⟨_, _, _, tlo, h, ht1, ht2, ht3, fun ins ho hS oo hoo => ?_⟩
  obtain ⟨σ1, ms1, hS1, hs1, ho1⟩ := freeze_all (ms := []) hD hfz ht1 ht3 ho hS
  rw [List.nil_append] at hS1
  obtain ⟨hE, hl, hcell⟩ := lit_ok (T := T) (vs := parts.toList.map fun q => ev n f q.2) hD hor hs1 (by simp) (fun j v s hj hs => by
    rw [List.getElem?_map] at hj hs
    rcases hp : parts.toList[j]? with _ | x
    · rw [hp] at hj; cases hj
    · rw [hp] at hj hs; cases hj; cases hs; exact k.e _) hq (frz_rep hfz ho1)
  have hlen : l.length = len := by rw [hl, ← h4]; simp
  obtain ⟨z, hz⟩ := Option.isSome_iff_exists.1 h6
  obtain ⟨i, hi, hz⟩ := Option.bind_eq_some_iff.1 hz
  have hrest : ((Array.range (len * szQ P el)).map fun j => (if len * szQ P el = 0 then (#[] : Array Value) else z.cells)[j % (if len * szQ P el = 0 then (#[] : Array Value) else z.cells).size]!).toList.length = parts.toList.length * szQ P el := by simp [← h4]
  have hfill := fill_lit (r := ev n f) (sz := szQ P el) parts.toList 0 [] _ h3 (by simp) (fun q hq => by rw [h2]; exact (hcell (ev n f q.2) (List.mem_map.2 ⟨q, hq, rfl⟩)).1) hrest
  have hpm : (parts.map fun (i, x) => (i, ev n f x)).toList = parts.toList.map fun q => (q.1, ev n f q.2) := by simp
  have hfm : (parts.toList.flatMap fun q => (ev n f q.2).cells.toList) = (parts.toList.map fun q => ev n f q.2).flatMap fun v => v.cells.toList := by rw [List.flatMap_map]
  rw [List.nil_append, Array.toArray_toList, List.nil_append, hfm] at hfill
  have hcl : ((parts.toList.map fun q => ev n f q.2).flatMap fun v => v.cells.toList).length = len * D.size T := by rw [hE.1, hlen]
  have hrun : (execOp (ev n f) oo).run P w = .ok (.value (.slice (some ⟨w.heap.size, 0, none⟩) len len)) (w.alloc (.cells ((parts.toList.map fun q => ev n f q.2).flatMap fun v => v.cells.toList).toArray el)) := by
    have hzr : ∀ w, (zeroValue el).run P w = .ok z w := by intro w; simp [zeroValue, typeInfo, hi, hz]
    have hbig : ¬ len * szQ P el > 2 ^ 24 := by omega
    by_cases h0 : len * szQ P el = 0
    · rw [if_pos h0] at hfill
      simp only [execOp, hoo, Instr.buildSlice, Sem.run_bind, run_underlying hu, Result.andThen_ok, run_szQ h1, if_neg hbig, if_pos h0, Sem.run_pure, hpm]
      rw [hfill]
      simp [newRow, newObj, Sem.run]
    · rw [if_neg h0] at hfill
      simp only [execOp, hoo, Instr.buildSlice, Sem.run_bind, run_underlying hu, Result.andThen_ok, run_szQ h1, if_neg hbig, if_neg h0, Sem.run_pure, hzr, hpm]
      rw [hfill]
      simp [newRow, newObj, Sem.run]
  refine ⟨_, σ1, ν.add nx (.slice (some ⟨w.heap.size, 0, none⟩) len len), vec (.slice (some ⟨w.heap.size, 0, none⟩) len len) el (D.size T) len ((parts.toList.map fun q => ev n f q.2).flatMap fun v => v.cells.toList) :: ms1, _, hrun, Nm.add_ext hnx, Nm.add_new, ?_,
    ⟨⟨_, _, Nm.add_self, by rw [hlen], hE, ?_⟩, ho1.mono (Nm.add_ext hnx) (Sub.refl _)⟩, ⟨_, rfl, .hnd nx _ Nm.add_self rfl⟩⟩
  · refine hS1.add (alloc_keeps w _) ?_ (by rintro k ⟨⟩; exact Nat.le_refl _)
    refine ⟨hcl, .inr ⟨_, len, _, rfl, Nat.zero_le _, heap_alloc_new _ _, Nat.le_refl _, ?_, by simp [← hcl], ?_⟩⟩
    · have : len ≤ len * szQ P el := Nat.le_mul_of_pos_right _ (by rw [h2]; exact hD.pos T)
      simp only [maxLen]; omega
    · show List.take _ _ = _
      exact List.take_of_length_le (by rw [Array.length_toList] at *; simpa using Nat.le_of_eq hcl)
  · have : len ≤ len * szQ P el := Nat.le_mul_of_pos_right _ (by rw [h2]; exact hD.pos T)
    show l.length ≤ _
    omega

theorem els_rep (hD : D.Ok) {T : S.C} {z : S.car T} {cs : List Value} (hz : RowF D σ cs (D.shape T z)) (k : Nat) : Els D σ T ((List.replicate k cs).flatten) (List.replicate k z) := by
  have hl : cs.length = D.size T := by rw [hz.1, hD.len]
  induction k with
  | zero => exact ⟨by simp, fun i x hx => by simp at hx⟩
  | succ k ih =>
    refine ⟨?_, fun i x hx => ?_⟩
    · have := ih.1
      rw [List.replicate_succ, List.flatten_cons, List.length_append, this, hl, List.replicate_succ, List.length_cons, Nat.add_mul, Nat.one_mul, Nat.add_comm]
    · rw [List.replicate_succ, List.flatten_cons]
      rw [List.replicate_succ] at hx
      cases i with
      | zero =>
        cases hx
        rw [Nat.zero_mul, List.drop_zero, List.take_append_of_le_length (by omega), List.take_of_length_le (by omega)]
        exact hz
      | succ i =>
        rw [Nat.add_mul, Nat.one_mul, Nat.add_comm, ← List.drop_drop, List.drop_left' hl]
        exact ih.2 i x (by simpa using hx)
theorem made_flat (cs : List Value) (k : Nat) : (madeCells cs.toArray (k * cs.length)).toList = (List.replicate k cs).flatten := by
  have hlen : (List.replicate k cs).flatten.length = k * cs.length := by simp
  apply List.ext_getElem?
  intro m
  rcases Nat.lt_or_ge m (k * cs.length) with hm | hm
  · have hpos : 0 < cs.length := by
      rcases Nat.eq_zero_or_pos cs.length with h | h
      · rw [h] at hm; omega
      · exact h
    have hi : m / cs.length < k := by rw [Nat.div_lt_iff_lt_mul hpos]; exact hm
    have e1 : (List.replicate k cs).flatten[m]? = cs[m % cs.length]? := by
      have key : ∀ (k m : Nat), m < k * cs.length → (List.replicate k cs).flatten[m]? = cs[m % cs.length]? := by
        intro k
        induction k with
        | zero => intro m hm; simp at hm
        | succ k ih =>
          intro m hm
          rw [List.replicate_succ, List.flatten_cons]
          rw [Nat.add_mul, Nat.one_mul] at hm
          rcases Nat.lt_or_ge m cs.length with h | h
          · rw [List.getElem?_append_left h, Nat.mod_eq_of_lt h]
          · rw [List.getElem?_append_right h, ih _ (by omega), Nat.mod_eq_sub_mod h]
      exact key k m hm
    rw [e1]
    have hlt := Nat.mod_lt m hpos
    simp [madeCells, hm, hlt]
  · rw [List.getElem?_eq_none (by simpa [madeCells] using hm), List.getElem?_eq_none (by rw [hlen]; exact hm)]

theorem intQ_ok {x : Operand} {i : Int} (k : Kn D ν σ n f w e ob lkc oh) (h : intQ (e x) = some i) : ev n f x = .int .i64 i := by
  have hx := k.e x
  generalize e x = s at h hx
  unfold intQ at h
  split at h
  · cases h; exact rep_int hx
  · cases h
theorem e_makeSlice {t : TypeId} {x y : Operand} (hP : D.OkP P) (hnx : ν nx = none) (k : Kn D ν σ n f w e ob lkc oh) (h : effOp P D e ob nx (.makeSlice t x y) K) : EffOk P D ν σ w ob lkc nx (ev n f) (.makeSlice t x y) K := by
  have hD := hP.ok
  simp only [effOp] at h
  split at h
  case h_2 => exact h.elim
  rename_i el hu
  split at h
  case h_2 => exact h.elim
  rename_i T a b hcode ha hb
  split at h
  case h_2 => exact h.elim
  rename_i i hi
  obtain ⟨hc, ⟨h0, hab, hsm⟩, hfin⟩ := bif_f h
  clear h
  obtain ⟨hc, h4⟩ := and_b hc
  obtain ⟨hc, h3⟩ := and_b hc
  obtain ⟨h1, h2⟩ := and_b hc
  have h2 := Nat.eq_of_beq_eq_true h2
  have h4 := Nat.le_of_ble_eq_true h4
  obtain ⟨z, hz⟩ := Option.isSome_iff_exists.1 h3
  subst hab
  have hzr := hP.zero _ _ _ _ hcode hi hz
  refine ⟨_, _, _, [], hfin, rfl, List.nodup_nil, by simp, fun ins ho hS oo hoo => ?_⟩
  cases ins with
  | cons => exact ho.elim
  | nil =>
    have hsm' := sml_bytes hsm h4
    have hk : a = ((a.toNat : Nat) : Int) := by omega
    obtain ⟨w', hr, hown, hg⟩ := run_make_full (P := P) w w.heap.size t el i z (D.size T) hu hi hz h2 .i64 .i64 a.toNat (by rw [Nat.mul_comm]; omega) hsm'.2 (Nat.le_refl _)
    have hzl : z.cells.toList.length = D.size T := by rw [(hzr σ).1, hD.len]
    have hrun : (execOp (ev n f) oo).run P w = .ok (.value (.slice (some ⟨w.heap.size, 0, none⟩) a.toNat a.toNat)) w' := by
      have hxa := intQ_ok k ha
      have hya := intQ_ok k hb
      rw [hk] at hxa hya
      simp only [execOp, hoo, hxa, hya, Sem.run_bind, hr, Result.andThen_ok]
      rfl
    have hmade : (madeCells z.cells (a.toNat * D.size T)).toList = (List.replicate a.toNat z.cells.toList).flatten := by
      have := made_flat z.cells.toList a.toNat
      rw [hzl, Array.toArray_toList] at this
      exact this
    refine ⟨w', σ, ν.add nx (.slice (some ⟨w.heap.size, 0, none⟩) a.toNat a.toNat), [vec (.slice (some ⟨w.heap.size, 0, none⟩) a.toNat a.toNat) el (D.size T) a.toNat (madeCells z.cells (a.toNat * D.size T)).toList], _, hrun, Nm.add_ext hnx, Nm.add_new, ?_,
      ⟨⟨_, (madeCells z.cells (a.toNat * D.size T)).toList, Nm.add_self, by rw [List.length_replicate], ?_, ?_⟩, trivial⟩, ⟨_, rfl, .hnd nx _ Nm.add_self rfl⟩⟩
    · refine hS.add ⟨hg.os, hg.tape, hg.output, hg.size, fun k hk _ => hg.block k hk (by simp)⟩ ?_ (by rintro k ⟨⟩; exact Nat.le_refl _)
      exact ⟨hown.1, hown.2.imp id fun ⟨g, cap, cur, h1, _, h3⟩ => ⟨g, cap, cur, h1, Nat.zero_le _, h3⟩⟩
    · rw [hmade]; exact els_rep hD (hzr σ) _
    · have := hsm
      unfold Sml at this
      simp; omega

/-- A list that is read, as one row. -/
theorem RSl.row {α : Type} {size : Nat} {R : Hv → List Value → α → Prop} {v : Value} {l : List α} (h : RSl size R σ v l) : ∃ a cap, v = .slice a l.length cap ∧ ((a = none ∧ l = []) ∨ ∃ ad xs, a = some ad ∧ xs.length = l.length * size ∧ VRow σ ad xs ∧
    ∀ (i : Nat) x, l[i]? = some x → R σ ((xs.drop (i * size)).take size) x) := by
  obtain ⟨a, cap, h1, h2, h3, h4⟩ := h
  refine ⟨a, cap, h1, ?_⟩
  cases a with
  | none =>
    left
    refine ⟨rfl, ?_⟩
    cases l with
    | nil => rfl
    | cons x l => obtain ⟨_, _, h0, _⟩ := h4 0 x rfl; cases h0
  | some ad =>
    right
    refine ⟨ad, (List.range (l.length * size)).map fun m => (σ.cell (ad.add m)).getD undef, rfl, by simp, ?_, ?_⟩
    · intro j u hj
      rw [List.getElem?_map] at hj
      rcases Nat.lt_or_ge j (l.length * size) with hlt | hge
      · rw [List.getElem?_range hlt] at hj
        have hpos : 0 < size := by
          rcases Nat.eq_zero_or_pos size with h | h
          · rw [h] at hlt; omega
          · exact h
        have hdiv : j / size < l.length := by rw [Nat.div_lt_iff_lt_mul hpos]; exact hlt
        obtain ⟨x, hx⟩ := getq hdiv
        obtain ⟨ad', cs, ha, hl, hr, _⟩ := h4 _ x hx
        cases ha
        obtain ⟨u', hu'⟩ := getq (l := cs) (k := j % size) (by rw [hl]; exact Nat.mod_lt _ hpos)
        have := hr _ u' hu'
        rw [addr_add] at this
        have e : j / size * size + j % size = j := by rw [Nat.mul_comm]; exact Nat.div_add_mod j _
        rw [e] at this
        simp only [Option.map_some, this, Option.getD_some, Option.some.injEq] at hj
        rw [this, hj]
      · rw [List.getElem?_eq_none (by simpa using hge)] at hj; cases hj
    · intro i x hx
      obtain ⟨ad', cs, ha, hl, hr, hR⟩ := h4 i x hx
      cases ha
      have hi := lt_of_getq hx
      have hm : (i + 1) * size ≤ l.length * size := Nat.mul_le_mul_right _ hi
      rw [Nat.add_mul, Nat.one_mul] at hm
      have e : (((List.range (l.length * size)).map fun m => (σ.cell (ad.add m)).getD undef).drop (i * size)).take size = cs := by
        apply List.ext_getElem?
        intro j
        rw [List.getElem?_take]
        split
        · rename_i hj
          rw [List.getElem?_drop, List.getElem?_map, List.getElem?_range (by omega)]
          obtain ⟨u, hu⟩ := getq (l := cs) (k := j) (by omega)
          have := hr j u hu
          rw [addr_add] at this
          rw [hu, Option.map_some, this]; rfl
        · rename_i hj
          rw [List.getElem?_eq_none (by omega)]
      rw [e]; exact hR

theorem els_append {T : S.C} {xs ys : List Value} {l l' : List (S.car T)} (h : Els D σ T xs l) (h' : Els D σ T ys l') : Els D σ T (xs ++ ys) (l ++ l') := by
  refine ⟨by rw [List.length_append, h.1, h'.1, List.length_append, Nat.add_mul], fun i x hx => ?_⟩
  rcases Nat.lt_or_ge i l.length with hlt | hge
  · rw [List.getElem?_append_left hlt] at hx
    have hm : (i + 1) * D.size T ≤ l.length * D.size T := Nat.mul_le_mul_right _ hlt
    rw [Nat.add_mul, Nat.one_mul, ← h.1] at hm
    have e : ((xs ++ ys).drop (i * D.size T)).take (D.size T) = (xs.drop (i * D.size T)).take (D.size T) := by
      rw [List.drop_append_of_le_length (by omega), List.take_append_of_le_length (by rw [List.length_drop]; omega)]
    rw [e]; exact h.2 i x hx
  · rw [List.getElem?_append_right hge] at hx
    have e : i * D.size T = xs.length + (i - l.length) * D.size T := by rw [h.1, ← Nat.add_mul]; congr 1; omega
    rw [e, ← List.drop_drop, List.drop_left' rfl]
    exact h'.2 _ x hx
theorem els_ones {T : S.C} {xs : List Value} {l : List (S.car T)} (hD : D.Ok) (h : Els D σ T xs l) : ∀ u ∈ xs, u.oneCell' = true := by
  intro u hu
  obtain ⟨j, hj⟩ := List.mem_iff_getElem?.1 hu
  have hjl := lt_of_getq hj
  have hpos := hD.pos T
  have hdiv : j / D.size T < l.length := by rw [Nat.div_lt_iff_lt_mul hpos, ← h.1]; exact hjl
  obtain ⟨y, hy⟩ := getq hdiv
  have hrow := h.2 _ y hy
  have hm : ((xs.drop (j / D.size T * D.size T)).take (D.size T))[j % D.size T]? = some u := by
    rw [List.getElem?_take_of_lt (Nat.mod_lt _ hpos), List.getElem?_drop]
    have : j / D.size T * D.size T + j % D.size T = j := by rw [Nat.mul_comm]; exact Nat.div_add_mod j _
    rw [this]; exact hj
  obtain ⟨s, hs⟩ := getq (l := D.shape T y) (k := j % D.size T) (by rw [← hrow.1]; exact lt_of_getq hm)
  exact (hrow.2 _ u s hm hs).one
/-- What is appended: a nil slice, or a row that lies in the world. -/
def Src (D : Shp S) (σ : Hv) (w : World) (T : S.C) (v : Value) (l : List (S.car T)) : Prop :=
  ∃ a cap, v = .slice a l.length cap ∧ ((a = none ∧ l = []) ∨ ∃ ad ys, a = some ad ∧ Row w ad ys ∧ Els D σ T ys l)
theorem run_appS {t el : TypeId} {T : S.C} {i : TypeInfo} {z v yv : Value} {xs : List Value} {l l' : List (S.car T)} (hD : D.Ok) (hu : P.underlying t = some (.slice el)) (hi : P.info? el = some i) (hz : i.zero = some z) (hsz : i.size = D.size T) (hzl : z.cells.size = D.size T)
    (hb : i.bytes ≤ 32768) (hE : Els D σ T xs l) (hok : (vec v el (D.size T) l.length xs).ok w) (hs : Src D σ w T yv l') (hsm : Sml (l ++ l').length) {x y : Operand} {ts : Array TypeId} {r : Operand → Value} (hx : r x = v) (hy : r y = yv) (hts : ts = #[t, t]) {oo : Oper} (hoo : oo.op = .call ⟨.builtin .append, #[x, y], ts⟩) :
    ∃ v' w' xs', (execOp r oo).run P w = .ok (.value v') w' ∧ Els D σ T xs' (l ++ l') ∧ (vec v' el (D.size T) (l ++ l').length xs').ok w' ∧ Keeps v.ownBlock.toList w w' ∧ (∀ b, v'.ownBlock = some b → v.ownBlock = some b ∨ w.heap.size ≤ b) := by
  subst hts
  obtain ⟨a, cap, rfl, hs⟩ := hs
  have run : ∀ v' w', (Builtin.append_ #[t, t] oo.type #[v, .slice a l'.length cap]).run P w = .ok v' w' → (execOp r oo).run P w = .ok (.value v') w' := by
    intro v' w' h
    simp only [execOp, hoo, resolve, invoke, builtin, Sem.run_bind, Sem.run_pure, Result.andThen_ok, List.map_toArray, List.map_cons, List.map_nil, hx, hy, h]
  rcases hs with ⟨rfl, rfl⟩ | ⟨ad, ys, rfl, hrow, hE'⟩
  · have hr := run_append_empty (P := P) (w := w) 0 t oo.type el i (D.size T) cap hu hi v l.length xs hok
    refine ⟨v, w, xs, run _ _ hr, by simpa using hE, by simpa using hok, Keeps.refl _ _, fun b hb => .inl hb⟩
  · have hsm2 := sml_bytes hsm hb
    rw [List.length_append] at hsm2
    obtain ⟨v', w', hr, ho, hk, hf⟩ := run_app (P := P) (ty' := oo.type) (cc := cap) hu hi hz hsz rfl hzl (hD.pos T) hok hE'.1 hrow (els_ones hD hE') hsm2.1 hsm2.2
    exact ⟨v', w', xs ++ ys, run _ _ hr, els_append hE hE', by rw [List.length_append]; exact ho, hk, hf⟩
theorem own_src {T : S.C} {v : Value} {el : TypeId} {ys : List Value} {l : List (S.car T)} (hok : (vec v el (D.size T) l.length ys).ok w) (hE : Els D σ T ys l) : Src D σ w T v l := by
  rcases (vec_shape hok).2 with ⟨rfl, h0⟩ | ⟨g, cap, rfl, _⟩
  · have : l = [] := List.eq_nil_of_length_eq_zero h0
    subst this
    exact ⟨none, 0, rfl, .inl ⟨rfl, rfl⟩⟩
  · exact ⟨_, cap, rfl, .inr ⟨_, ys, rfl, vec_row hok, hE⟩⟩
theorem rd_src {T : S.C} {v : Value} {l : List (S.car T)} (hD : D.Ok) (hV : View σ w) (h : RepF D σ v (.sl T l)) : Src D σ w T v l := by
  obtain ⟨a, cap, hv, h⟩ := RSl.row (h.toRSl hD)
  rcases h with ⟨rfl, rfl⟩ | ⟨ad, xs, rfl, hl, hr, hR⟩
  · exact ⟨none, cap, hv, .inl ⟨rfl, rfl⟩⟩
  · exact ⟨some ad, cap, hv, .inr ⟨ad, xs, rfl, hr.row hV, hl, hR⟩⟩

theorem ownQ_ok {el : TypeId} {T : S.C} {s : SV S} {a : List Nat} {l : List (S.car T)} (h : ownQ el T ob s = some (a, l)) : (s = .f .nils ∧ a = [] ∧ l = []) ∨ ∃ o, s = .hnd o ∧ a = [o] ∧ ob o = some (.vec el T l) := by
  cases s with
  | f x =>
    cases x with
    | nils => cases h; exact .inl ⟨rfl, rfl, rfl⟩
    | _ => cases h
  | hnd o =>
    simp only [ownQ] at h
    split at h
    case h_2 => cases h
    rename_i e T' l0 hob
    cases hb : Nat.beq e el with
    | false => rw [hb] at h; cases h
    | true =>
      rw [hb] at h
      have hb := Nat.eq_of_beq_eq_true hb
      simp only [cond_true] at h
      split at h
      case h_2 => cases h
      rename_i he _
      cases h
      subst he hb
      exact .inr ⟨o, rfl, rfl, hob⟩
  | _ => cases h
theorem srcQ_ok {el : TypeId} {T : S.C} {s : SV S} {b : List Nat} {l : List (S.car T)} (h : srcQ el T ob s = some (b, l)) :
    (s = .f .nils ∧ b = [] ∧ l = []) ∨ (s = .f (.sl T l) ∧ b = []) ∨ (∃ o, s = .hnd o ∧ b = [o] ∧ ob o = some (.vec el T l)) ∨ ∃ o, s = .hnd o ∧ b = [] ∧ ob o = some (.frz T l) := by
  cases s with
  | f x =>
    cases x with
    | nils => cases h; exact .inl ⟨rfl, rfl, rfl⟩
    | sl T' l' =>
      simp only [srcQ] at h
      split at h
      case h_2 => cases h
      rename_i he _
      cases h
      subst he
      exact .inr (.inl ⟨rfl, rfl⟩)
    | _ => cases h
  | hnd o =>
    simp only [srcQ] at h
    split at h
    · rename_i e T' l0 hob
      cases hb : Nat.beq e el with
      | false => rw [hb] at h; cases h
      | true =>
        rw [hb] at h
        have hb := Nat.eq_of_beq_eq_true hb
        simp only [cond_true] at h
        split at h
        case h_2 => cases h
        rename_i he _
        cases h
        subst he hb
        exact .inr (.inr (.inl ⟨o, rfl, rfl, hob⟩))
    · rename_i T' l0 hob
      split at h
      case h_2 => cases h
      rename_i he _
      cases h
      subst he
      exact .inr (.inr (.inr ⟨o, rfl, rfl, hob⟩))
    · cases h
  | _ => cases h

theorem e_append {args : Array Operand} {ts : Array TypeId} (hP : D.OkP P) (hnx : ν nx = none) (k : Kn D ν σ n f w e ob lkc oh) (h : effOp P D e ob nx (.call ⟨.builtin .append, args, ts⟩) K) : EffOk P D ν σ w ob lkc nx (ev n f) (.call ⟨.builtin .append, args, ts⟩) K := by
  have hD := hP.ok
  simp only [effOp] at h
  split at h
  case h_2 => exact h.elim
  rename_i x y t t' ha ht
  have ha' : args = #[x, y] := by apply Array.ext'; simpa using ha
  have ht' : ts = #[t, t'] := by apply Array.ext'; simpa using ht
  obtain ⟨htt, h0⟩ := bif_f h
  clear h
  have htt := Nat.eq_of_beq_eq_true htt
  subst htt
  have h := h0
  clear h0
  split at h
  case h_2 => exact h.elim
  rename_i el hu
  split at h
  case h_2 => exact h.elim
  rename_i T i hcode hi
  obtain ⟨hc, h⟩ := bif_f h
  obtain ⟨hc, hbytes⟩ := and_b hc
  obtain ⟨hc, hz⟩ := and_b hc
  obtain ⟨hT, hsz⟩ := and_b hc
  have hbytes := Nat.le_of_ble_eq_true hbytes
  have hsz := Nat.eq_of_beq_eq_true hsz
  obtain ⟨z, hz⟩ := Option.isSome_iff_exists.1 hz
  have hzl : z.cells.size = D.size T := by rw [← Array.length_toList, (hP.zero _ _ _ _ hcode hi hz σ).1, hD.len]
  split at h
  case h_2 => exact h.elim
  rename_i a l b l' hown hsrc
  obtain ⟨hne, hsm, hfin⟩ := bif_f h
  clear h
  subst ha'
  have kx := k.e x
  have ky := k.e y
  have h47 : (l ++ l').length ≤ 140737488355328 := by unfold Sml at hsm; omega
  have hcase : (b = [] ∧ (View σ w → Src D σ w T (ev n f y) l')) ∨ ∃ o', e y = .hnd o' ∧ b = [o'] ∧ ob o' = some (.vec el T l') := by
    rcases srcQ_ok hsrc with ⟨hye, rfl, rfl⟩ | ⟨hye, rfl⟩ | ⟨o', hye, rfl, hob'⟩ | ⟨o', hye, rfl, hob'⟩
    · exact .inl ⟨rfl, fun _ => ⟨none, 0, rep_nils (hye ▸ ky), .inl ⟨rfl, rfl⟩⟩⟩
    · exact .inl ⟨rfl, fun hV => rd_src hD hV (rep_sl (hye ▸ ky))⟩
    · exact .inr ⟨o', hye, rfl, hob'⟩
    · refine .inl ⟨rfl, fun hV => ?_⟩
      obtain ⟨hR, _⟩ := k.o _ _ hob'
      obtain ⟨v', hν', _, hr⟩ := hR
      have hyv : ev n f y = v' := rep_hnd (hye ▸ ky) hν'
      rw [hyv]
      exact rd_src hD hV hr
  clear hsrc
  rcases ownQ_ok hown with ⟨hxe, rfl, rfl⟩ | ⟨o, hxe, rfl, hob⟩
  · -- a nil slice grows
    have hxv : ev n f x = .slice none 0 0 := rep_nils (hxe ▸ kx)
    have hnil : ∀ w : World, (vec (.slice none 0 0) el (D.size T) ([] : List (S.car T)).length []).ok w := fun w => World.ownsRow_nil w 0 el (D.size T)
    have hE0 : Els D σ T [] ([] : List (S.car T)) := ⟨by simp, fun i x hx => by simp at hx⟩
    rcases hcase with ⟨rfl, hs⟩ | ⟨o', hye, rfl, hob'⟩
    · refine ⟨_, _, _, [], hfin, rfl, List.nodup_nil, by simp, fun ins ho hS oo hoo => ?_⟩
      cases ins with
      | cons => exact ho.elim
      | nil =>
        obtain ⟨v', w', xs', hrun, hE', hok', hk, hf⟩ := run_appS (P := P) hD hu hi hz hsz hzl hbytes hE0 (hnil w) (hs hS.view) hsm hxv rfl ht' hoo
        exact ⟨w', σ, ν.add nx v', [vec v' el (D.size T) _ xs'], _, hrun, Nm.add_ext hnx, Nm.add_new, hS.add hk hok' (fun b hb => (hf b hb).resolve_left (by intro h; cases h)), ⟨⟨v', xs', Nm.add_self, rfl, hE', h47⟩, trivial⟩, ⟨v', rfl, .hnd nx v' Nm.add_self (vec_one hok')⟩⟩
    · refine ⟨_, _, _, [(o', .vec el T l')], hfin, rfl, by simp, by simpa using hob', fun ins ho hS oo hoo => ?_⟩
      match ins, ho with
      | [m], ho =>
        obtain ⟨vy, ys, hνy, hm, hEy, hly⟩ := ho.1
        subst hm
        have hs : Src D σ w T (ev n f y) l' := by
          have hyv : ev n f y = vy := rep_hnd (hye ▸ ky) hνy
          rw [hyv]
          exact own_src (hS.get (i := 0) rfl) hEy
        obtain ⟨v', w', xs', hrun, hE', hok', hk, hf⟩ := run_appS (P := P) hD hu hi hz hsz hzl hbytes hE0 (hnil w) hs hsm hxv rfl ht' hoo
        exact ⟨w', σ, ν.add nx v', [vec v' el (D.size T) _ xs', _], _, hrun, Nm.add_ext hnx, Nm.add_new, hS.add hk hok' (fun b hb => (hf b hb).resolve_left (by intro h; cases h)),
          ⟨⟨v', xs', Nm.add_self, rfl, hE', h47⟩, ⟨vy, ys, Nm.add_ext hnx _ _ hνy, rfl, hEy, hly⟩, trivial⟩, ⟨v', rfl, .hnd nx v' Nm.add_self (vec_one hok')⟩⟩
  · -- a list of the call's own grows
    rcases hcase with ⟨rfl, hs⟩ | ⟨o', hye, rfl, hob'⟩
    · refine ⟨_, _, _, [(o, .vec el T l)], hfin, rfl, by simp, by simpa using hob, fun ins ho hS oo hoo => ?_⟩
      match ins, ho with
      | [m], ho =>
        obtain ⟨vx, xs, hνx, hm, hEx, hlx⟩ := ho.1
        subst hm
        obtain ⟨v', w', xs', hrun, hE', hok', hk, hf⟩ := run_appS (P := P) hD hu hi hz hsz hzl hbytes hEx (hS.get (i := 0) rfl) (hs hS.view) hsm (rep_hnd (hxe ▸ kx) hνx) rfl ht' hoo
        exact ⟨w', σ, ν.add nx v', [vec v' el (D.size T) _ xs'], _, hrun, Nm.add_ext hnx, Nm.add_new, hS.step (i := 0) rfl hk hok' hf rfl hS.view.none_of_ge, ⟨⟨v', xs', Nm.add_self, rfl, hE', h47⟩, trivial⟩, ⟨v', rfl, .hnd nx v' Nm.add_self (vec_one hok')⟩⟩
    · have hoo' : o ≠ o' := by
        intro he
        subst he
        simp at hne
      refine ⟨_, _, _, [(o, .vec el T l), (o', .vec el T l')], hfin, rfl, by simpa using hoo', by simpa using ⟨hob, hob'⟩, fun ins ho hS oo hoo => ?_⟩
      match ins, ho with
      | [m, m'], ho =>
        obtain ⟨vx, xs, hνx, hm, hEx, hlx⟩ := ho.1
        obtain ⟨vy, ys, hνy, hm', hEy, hly⟩ := ho.2.1
        subst hm hm'
        have hs : Src D σ w T (ev n f y) l' := by
          have hyv : ev n f y = vy := rep_hnd (hye ▸ ky) hνy
          rw [hyv]
          exact own_src (hS.get (i := 1) rfl) hEy
        obtain ⟨v', w', xs', hrun, hE', hok', hk, hf⟩ := run_appS (P := P) hD hu hi hz hsz hzl hbytes hEx (hS.get (i := 0) rfl) hs hsm (rep_hnd (hxe ▸ kx) hνx) rfl ht' hoo
        exact ⟨w', σ, ν.add nx v', [vec v' el (D.size T) _ xs', _], _, hrun, Nm.add_ext hnx, Nm.add_new, hS.step (i := 0) rfl hk hok' hf rfl hS.view.none_of_ge,
          ⟨⟨v', xs', Nm.add_self, rfl, hE', h47⟩, ⟨vy, ys, Nm.add_ext hnx _ _ hνy, rfl, hEy, hly⟩, trivial⟩, ⟨v', rfl, .hnd nx v' Nm.add_self (vec_one hok')⟩⟩

/-- The first part of a list of the call's own. -/
theorem e_slice {t : TypeId} {x r : Operand} (hP : D.OkP P) (hnx : ν nx = none) (k : Kn D ν σ n f w e ob lkc oh) (h : effOp P D e ob nx (.slice t x none (some r) none) K) : EffOk P D ν σ w ob lkc nx (ev n f) (.slice t x none (some r) none) K := by
  have hD := hP.ok
  simp only [effOp] at h
  split at h
  case h_2 => exact h.elim
  rename_i el o i hu hxe hri
  split at h
  case h_2 => exact h.elim
  rename_i ety T l hob
  obtain ⟨hc, ⟨h0, h1⟩, h⟩ := bif_f h
  obtain ⟨hc, _⟩ := and_b hc
  obtain ⟨hT, hsz⟩ := and_b hc
  have hsz := Nat.eq_of_beq_eq_true hsz
  have hrv := intQ_ok k hri
  refine ⟨_, _, _, [(o, .vec ety T l)], h, rfl, by simp, by simpa using hob, fun ins ho hS oo hoo => ?_⟩
  match ins, ho with
  | [m], ho =>
    obtain ⟨v, xs, hν, hm, hE, hl⟩ := ho.1
    subst hm
    have hxv := rep_hnd (hxe ▸ k.e x) hν
    have hok := hS.get (i := 0) rfl
    obtain ⟨a, cap, hv, hcap⟩ := vec_anyc hok
    subst hv
    have hk : i.toNat ≤ l.length := by omega
    have hpos := hD.pos T
    have hrun : (execOp (ev n f) oo).run P w = .ok (.value (.slice a i.toNat cap)) w := by
      have e1 : i = ((i.toNat : Nat) : Int) := by omega
      have hb : (Instr.sliceBounds true l.length cap none (some (ev n f r)) none).run P w = .ok (0, i.toNat, cap) w := by
        have e2 : i ≤ (cap : Int) := by omega
        have e3 : max i 0 = i := by omega
        simp [Instr.sliceBounds, Instr.sliceBound, asIntOf, hrv, h0, e2]
      simp [execOp, hoo, hxv, Instr.sliceAt, run_underlying hu, Instr.slice, hb, run_szQ hT]
      cases a with
      | none => simp
      | some ad => simp [Addr.add]
    have htk : (vec (.slice a i.toNat cap) ety (D.size T) i.toNat (xs.take (i.toNat * D.size T))).ok w := vec_takev hok hk
    refine ⟨w, σ, ν.add nx (.slice a i.toNat cap), [vec (.slice a i.toNat cap) ety (D.size T) (l.take i.toNat).length (xs.take (i.toNat * D.size T))], _, hrun, Nm.add_ext hnx, Nm.add_new, ?_, ⟨⟨_, _, Nm.add_self, rfl, ?_, ?_⟩, trivial⟩, ⟨_, rfl, .hnd nx _ Nm.add_self rfl⟩⟩
    · have hlen : (l.take i.toNat).length = i.toNat := by rw [List.length_take]; omega
      rw [hlen]
      exact step1 hS (Keeps.refl _ _) htk (by cases a <;> rfl)
    · refine ⟨?_, fun j x hx => ?_⟩
      · rw [List.length_take, hE.1, List.length_take]
        have : i.toNat * D.size T ≤ l.length * D.size T := Nat.mul_le_mul_right _ hk
        rw [Nat.min_eq_left this, Nat.min_eq_left hk]
      · rw [List.getElem?_take] at hx
        split at hx
        case isFalse => cases hx
        rename_i hj
        have := hE.2 j x hx
        have h3 : (j + 1) * D.size T ≤ i.toNat * D.size T := Nat.mul_le_mul_right _ hj
        rw [Nat.add_mul, Nat.one_mul] at h3
        have e : ((xs.take (i.toNat * D.size T)).drop (j * D.size T)).take (D.size T) = (xs.drop (j * D.size T)).take (D.size T) := by
          rw [List.drop_take, List.take_take, Nat.min_eq_left (by omega)]
        rw [e]; exact this
    · rw [List.length_take]; omega

theorem e_range {t : TypeId} {x : Operand} (hP : D.OkP P) (hnx : ν nx = none) (k : Kn D ν σ n f w e ob lkc oh) (h : effOp P D e ob nx (.range t x) K) : EffOk P D ν σ w ob lkc nx (ev n f) (.range t x) K := by
  simp only [effOp] at h
  split at h
  case h_2 => exact h.elim
  rename_i Kc V o hmc hx
  obtain ⟨kt, et, hu, hK, hkey, _⟩ := hP.map _ _ _ hmc
  split at h
  case h_2 => exact h.elim
  rename_i K' V' F hob
  obtain ⟨e1, e2, h⟩ := withMap_ok h
  subst e1 e2
  -- the keys, by what the object is now
  obtain ⟨⟨b, mm, hν, hh, hF⟩, hok⟩ := k.o o _ hob
  rw [hh] at hok
  obtain ⟨es, clock, k1, k2, k3, k4⟩ := hok
  obtain ⟨ks, hn, hks⟩ := keysK k2 k4.1 hK.inj
  have hks' : Keys F ks := ⟨hn, fun q => by rw [hks q, k3 q, ORel.isSome (hF q)]⟩
  have hxv : ev n f x = .map (some b) := rep_hnd (hx ▸ k.e x) hν
  refine ⟨_, _, _, [(o, .map K' V' F)], h ks hks', rfl, by simp, by simpa using hob, fun ins ho hS oo hoo => ?_⟩
  match ins, ho with
  | [mo], ho =>
    obtain ⟨b', mm', hν', hmo, hF'⟩ := ho.1
    rw [hν] at hν'
    cases hν'
    subst hmo
    obtain ⟨es', clock', j1, j2, j3, j4⟩ := hS.get (i := 0) rfl
    obtain ⟨σ1, hS1, hs1, hb1⟩ := hS.freeze' (i := 0) rfl rfl
    have hb2 : σ1 b = some (.map es' clock') := (hb1 b rfl).trans j1
    refine ⟨w.alloc (.mapIter (some b) clock' #[] clock'), σ1, ν.add nx (.pointer (some ⟨w.heap.size, 0, none⟩)), _, .value (.pointer (some ⟨w.heap.size, 0, none⟩)), ?_, Nm.add_ext hnx, Nm.add_new,
      hS1.add (o := itrK (kenc D K') w.heap.size b es' clock' [] none) (alloc_keeps w _) ⟨#[], heap_alloc_new _ _, by simp, by simp⟩ (by rintro k ⟨⟩; exact Nat.le_refl _),
      ⟨⟨w.heap.size, b, es', clock', none, Nm.add_self, rfl, hb2, j2, j4, fun q => ?_, hkey, hK.inj, by simp⟩, trivial⟩, ⟨_, rfl, .ref nx 0 _ Nm.add_self⟩⟩
    · simp [execOp, hoo, hxv, Instr.range, Sem.run_bind, run_underlying hu, MapKept.run_getObj_map j1]
    · rw [j3 q]
      exact (hF' q).imp fun v y h => h.mono hs1
theorem e_next {x : Operand} (k : Kn D ν σ n f w e ob lkc oh) (h : effOp P D e ob nx (.next x false) K) (hV : View σ w) : EffOk P D ν σ w ob lkc nx (ev n f) (.next x false) K := by
  simp only [effOp] at h
  split at h
  case h_2 => exact h.elim
  rename_i o hx
  split at h
  case h_2 => exact h.elim
  rename_i Kc V F done cur hob
  obtain ⟨⟨r, b, es, clock, cv, hν, hh, hb, hK, hM, hF, hkey, hinj, _⟩, hok⟩ := k.o o _ hob
  rw [hh] at hok
  have hxv : ev n f x = .pointer (some ⟨r, 0, none⟩) := by
    have hx' := k.e x
    rw [hx] at hx'
    generalize ev n f x = u at hx'
    cases hx' with
    | ref _ _ b' h' => rw [hν] at h'; cases h'; rfl
  have same : ∀ m, ORep D ν σ lkc o (.iter Kc V F done cur) m → m.ok w → ∃ cv', m = itrK (kenc D Kc) r b es clock done cv' := by
    rintro m ⟨r', b', es', clock', cv', hν', hm, hb', _⟩ hmo
    rw [hν] at hν'
    cases hν'
    subst hm
    obtain ⟨s1, a1, _⟩ := hok
    obtain ⟨s2, a2, _⟩ := hmo
    rw [a1] at a2
    cases a2
    rw [hb] at hb'
    cases hb'
    exact ⟨cv', rfl⟩
  rcases run_nextK (P := P) (ty := 0) hok (hV _ _ hb) hK hM with ⟨h1, h2⟩ | ⟨ky, v, w1, h1, h2, h3, h4, h5⟩
  · have hall : AllIn F done := fun q hq => by
      rw [← ORel.isSome (hF q)] at hq
      obtain ⟨v, hv⟩ := Option.isSome_iff_exists.1 hq
      obtain ⟨k', hk', he⟩ := h1 q v hv
      rw [hinj _ _ he]; exact hk'
    refine ⟨_, _, _, [(o, .iter Kc V F done cur)], h.1 hall, rfl, by simp, by simpa using hob, fun ins ho hS oo hoo => ?_⟩
    match ins, ho with
    | [mo], ho =>
      obtain ⟨cv', rfl⟩ := same mo ho.1 (hS.get (i := 0) rfl)
      refine ⟨w, σ, ν, _, .value (.tuple #[.bool false]), ?_, Ext.refl ν, fun m u hu => .inl hu, hS, ⟨⟨r, b, es, clock, cv', hν, rfl, hb, hK, hM, hF, hkey, hinj, by simp⟩, trivial⟩, ⟨_, rfl, .tup [.bool false] _ rfl fun j u s hj hs => ?_⟩⟩
      · have h2' : (Instr.next (.pointer (some ⟨r, 0, none⟩)) false oo.type).run P w = .ok (.tuple #[.bool false]) w := h2
        simp only [execOp, hoo, hxv, Sem.run_bind, h2', Result.andThen_ok]; rfl
      · match j with
        | 0 => cases hj; cases hs; exact .lit false
        | j + 1 => cases hj
  · have hFk := hF ky
    rw [h1] at hFk
    cases hq : F ky with
    | none => rw [hq] at hFk; exact hFk.elim
    | some y =>
      rw [hq] at hFk
      refine ⟨_, _, _, [(o, .iter Kc V F done cur)], h.2 ky y hq h2, rfl, by simp, by simpa using hob, fun ins ho hS oo hoo => ?_⟩
      match ins, ho with
      | [mo], ho =>
        obtain ⟨cv', rfl⟩ := same mo ho.1 (hS.get (i := 0) rfl)
        refine ⟨w1, σ, ν, _, .value (.tuple #[.bool true, kenc D Kc ky, v]), ?_, Ext.refl ν, fun m u hu => .inl hu, step1 hS h4 h5 rfl, ⟨⟨r, b, es, clock, some (ky, v), hν, rfl, hb, hK, hM, hF, hkey, hinj, fun k' y' hk' => ?_⟩, trivial⟩, ⟨_, rfl, .tup [.bool true, kenc D Kc ky, v] _ rfl fun j u s hj hs => ?_⟩⟩
        · have h3' : (Instr.next (.pointer (some ⟨r, 0, none⟩)) false oo.type).run P w = .ok (.tuple #[.bool true, kenc D Kc ky, v]) w1 := h3
          simp only [execOp, hoo, hxv, Sem.run_bind, h3', Result.andThen_ok]; rfl
        · cases hk'; exact ⟨v, rfl, hFk⟩
        · obtain ⟨cs, hcs, hv⟩ := hFk
          match j with
          | 0 => cases hj; cases hs; exact .lit true
          | 1 => cases hj; cases hs; exact svOf_ok (key_row (hkey ky))
          | 2 => cases hj; cases hs; rw [hv]; exact svOf_ok hcs
          | j + 3 => cases hj
theorem eff_ok {o : Op} (hP : D.OkP P) (hnx : ν nx = none) (hV : View σ w) (k : Kn D ν σ n f w e ob lkc oh) (h : effOp P D e ob nx o K) : EffOk P D ν σ w ob lkc nx (ev n f) o K := by
  unfold effOp at h
  split at h
  · exact e_alloc (e := e) (f := f) hP hnx h
  · exact e_box hnx k h
  · exact e_store hP k h
  · exact e_makeMap (e := e) (f := f) hnx h
  · exact e_mapUpdate hP k h
  · exact e_buildSlice hP hnx k h
  · exact e_makeSlice hP hnx k h
  · exact e_append hP hnx k h
  · exact e_slice hP hnx k h
  · exact e_range hP hnx k h
  · exact e_next k h hV
  · exact h.elim
#print axioms eff_ok
end Go.Fx
