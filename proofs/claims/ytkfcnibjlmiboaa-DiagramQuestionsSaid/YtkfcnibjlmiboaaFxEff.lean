/- The operations with an effect do what their plain meaning says. Conditions: those in the statements. -/
import Derived.Test.YtkfcnibjlmiboaaFxOpsC
namespace Go.Fx
open Go Go.RowKit Go.Fl Go.Fl.Lk
variable {S : Sig} {P : Program} {D : Shp S} {ν ν' : Nm} {σ τ : Hv} {n : Nat} {f : Fr}
variable {w : World} {e : Operand → SV S} {ob : Nat → Option (AO S)} {lkc : Nat → Nat → SV S} {oh : Nat → HObj} {c : Cx}

def Objs (D : Shp S) (ν : Nm) (σ : Hv) (lkc : Nat → Nat → SV S) : List (Nat × AO S) → List HObj → Prop
  | [], [] => True
  | (o, a) :: os, h :: hs => ORep D ν σ lkc o a h ∧ Objs D ν σ lkc os hs
  | _, _ => False

theorem RowF.monoE {cs : List Value} {ss : List (FV S)} (h : RowF D σ cs ss) (hs : Sub σ τ) : RowF D τ cs ss := h.mono hs
theorem ORep.mono {o : Nat} {a : AO S} {h : HObj} (hr : ORep D ν σ lkc o a h) (hn : Ext ν ν') (hs : Sub σ τ) : ORep D ν' τ lkc o a h := by
  cases a with
  | cells ty l => obtain ⟨b, cs, h1, h2, h3⟩ := hr; exact ⟨b, cs, hn _ _ h1, h2, h3.mono hn hs⟩
  | vec ety T l => obtain ⟨v, xs, h1, h2, h3, h4⟩ := hr; exact ⟨v, xs, hn _ _ h1, h2, h3.mono hs, h4⟩
  | frz T l => obtain ⟨v, h1, h2, h3⟩ := hr; exact ⟨v, hn _ _ h1, h2, h3.mono hs⟩
  | arr ty T N l => obtain ⟨b, cs, h1, h2, h3, h4⟩ := hr; exact ⟨b, cs, hn _ _ h1, h2, h3.mono hs, h4⟩
  | map K V F => obtain ⟨b, m, h1, h2, h3⟩ := hr; exact ⟨b, m, hn _ _ h1, h2, fun k => (h3 k).imp fun v y h => h.mono hs⟩
  | iter K V F done cur =>
    obtain ⟨r, b, es, clock, cv, h1, h2, h3, h4, h5, h6, h7, h8, h9⟩ := hr
    exact ⟨r, b, es, clock, cv, hn _ _ h1, h2, hs _ _ h3, h4, h5, fun k => (h6 k).imp fun v y h => h.mono hs, h7, h8, fun k y hk => (h9 k y hk).imp fun v h => ⟨h.1, h.2.mono hs⟩⟩
theorem Objs.mono : ∀ {os : List (Nat × AO S)} {ms : List HObj}, Objs D ν σ lkc os ms → Ext ν ν' → Sub σ τ → Objs D ν' τ lkc os ms
  | [], [], _, _, _ => trivial
  | (_, _) :: _, _ :: _, h, hn, hs => ⟨h.1.mono hn hs, Objs.mono h.2 hn hs⟩
theorem Objs.append : ∀ {os os' : List (Nat × AO S)} {ms ms' : List HObj}, Objs D ν σ lkc os ms → Objs D ν σ lkc os' ms' → Objs D ν σ lkc (os ++ os') (ms ++ ms')
  | [], _, [], _, _, h => h
  | (_, _) :: _, _, _ :: _, _, h, h' => ⟨h.1, Objs.append h.2 h'⟩
theorem Objs.split : ∀ {os os' : List (Nat × AO S)} {ms : List HObj}, Objs D ν σ lkc (os ++ os') ms → ∃ m1 m2, ms = m1 ++ m2 ∧ Objs D ν σ lkc os m1 ∧ Objs D ν σ lkc os' m2
  | [], _, ms, h => ⟨[], ms, rfl, trivial, h⟩
  | (o, a) :: os, os', m :: ms, h => by
    obtain ⟨m1, m2, rfl, h1, h2⟩ := Objs.split (os := os) h.2
    exact ⟨m :: m1, m2, rfl, ⟨h.1, h1⟩, h2⟩
theorem findN_mem {α : Type} {os : List (Nat × α)} {o : Nat} {a : α} (h : findN os o = some a) : (o, a) ∈ os := by
  induction os with
  | nil => cases h
  | cons q os ih =>
    obtain ⟨o', a'⟩ := q
    simp only [findN] at h
    cases hb : Nat.beq o' o with
    | true => rw [hb] at h; cases h; rw [Nat.eq_of_beq_eq_true hb]; simp
    | false => rw [hb] at h; exact List.mem_cons_of_mem _ (ih h)
/-- One object is taken out. -/
theorem Objs.take {os : List (Nat × AO S)} {ms : List HObj} {o : Nat} {a : AO S} (h : Objs D ν σ lkc os ms) (hf : findN os o = some a) :
    ∃ m ms', ms.Perm (m :: ms') ∧ ORep D ν σ lkc o a m ∧ Objs D ν σ lkc (delN os o) ms' := by
  induction os generalizing ms with
  | nil => cases hf
  | cons q os ih =>
    obtain ⟨o', a'⟩ := q
    cases ms with
    | nil => exact h.elim
    | cons m ms =>
      simp only [findN] at hf
      simp only [delN]
      cases hb : Nat.beq o' o with
      | true =>
        rw [hb] at hf; cases hf
        have := Nat.eq_of_beq_eq_true hb
        subst this
        exact ⟨m, ms, .refl _, h.1, by simpa using h.2⟩
      | false =>
        rw [hb] at hf
        obtain ⟨m', ms', hp, hr, ho⟩ := ih h.2 hf
        exact ⟨m', m :: ms', (hp.cons m).trans (.swap _ _ _), hr, ⟨h.1, ho⟩⟩

theorem resL_id {g : Nat → SV S} : ∀ {l : List (SV S)} {i : Nat} {cs : List Value}, RowS D ν σ cs l → resL g i l = l := by
  intro l
  induction l with
  | nil => intro i cs _; rfl
  | cons s l ih =>
    intro i cs h
    cases cs with
    | nil => have := h.1; cases this
    | cons c cs =>
      have h1 := h.2.1 0 c s rfl rfl
      have h2 : RowS D ν σ cs l := ⟨by have := h.1; simpa using this, fun j v s hj hk => h.2.1 (j + 1) v s (by simpa using hj) (by simpa using hk), fun v hv => h.2.2 v (by simp [hv])⟩
      cases h1 <;> simp only [resL] <;> rw [ih h2]

def RepR (D : Shp S) (ν : Nm) (σ : Hv) (r : Next) : Option (SV S) → Prop
  | some s => ∃ v, r = .value v ∧ SRep D ν σ v s
  | none => r = .skip

def EffOk (P : Program) (D : Shp S) (ν : Nm) (σ : Hv) (w : World) (ob : Nat → Option (AO S)) (lkc : Nat → Nat → SV S) (nx : Nat) (r : Operand → Value) (o : Op) (K : List Nat → List (Nat × AO S) → Option (SV S) → Prop) : Prop :=
  ∃ tl outs sv tlo, K tl outs sv ∧ tlo.map (·.1) = tl ∧ tl.Nodup ∧ (∀ q ∈ tlo, ob q.1 = some q.2) ∧ ∀ ins, Objs D ν σ lkc tlo ins → St ⟨w, σ, feet ins⟩ w σ ins → ∀ oo : Oper, oo.op = o →
    ∃ w' σ' ν' ms' x, (execOp r oo).run P w = .ok x w' ∧ Ext ν ν' ∧ (∀ m u, ν' m = some u → ν m = some u ∨ m = nx) ∧ St ⟨w, σ, feet ins⟩ w' σ' ms' ∧ Objs D ν' σ' lkc outs ms' ∧ RepR D ν' σ' x sv

variable {nx : Nat} {K : List Nat → List (Nat × AO S) → Option (SV S) → Prop}

/-- A new name. -/
def Nm.add (ν : Nm) (o : Nat) (v : Value) : Nm := fun m => if m = o then some v else ν m
theorem Nm.add_ext {o : Nat} {v : Value} (h : ν o = none) : Ext ν (ν.add o v) := by
  intro m u hu
  unfold Nm.add
  rw [if_neg]
  · exact hu
  · rintro rfl; rw [h] at hu; cases hu
theorem Nm.add_new {o : Nat} {v : Value} : ∀ m u, ν.add o v m = some u → ν m = some u ∨ m = o := by
  intro m u hu
  unfold Nm.add at hu
  split at hu
  · rename_i h; exact .inr h
  · exact .inl hu
theorem Nm.add_self {o : Nat} {v : Value} : ν.add o v o = some v := by unfold Nm.add; rw [if_pos rfl]

/-- A new block. -/
theorem new_block {ins : List HObj} (hS : St c w σ ins) (t : TypeId) (cs : Array Value) : St c (w.alloc (.cells cs t)) σ (blk w.heap.size t cs.toList :: ins) :=
  hS.add (alloc_keeps w _) (by show (w.alloc _).heap[w.heap.size]? = _; rw [heap_alloc_new, Array.toArray_toList]) (by rintro k ⟨⟩; exact Nat.le_refl _)

theorem e_alloc {t : TypeId} (hP : D.OkP P) (hnx : ν nx = none) (h : effOp P D e ob nx (.alloc t) K) : EffOk P D ν σ w ob lkc nx (ev n f) (.alloc t) K := by
  simp only [effOp] at h
  split at h
  · rename_i T N ha
    obtain ⟨cs, hz, hE⟩ := hP.arr _ _ _ ha
    refine ⟨_, _, _, [], h, rfl, List.nodup_nil, by simp, fun ins ho hS oo hoo => ?_⟩
    cases ins with
    | cons => exact ho.elim
    | nil =>
      refine ⟨_, σ, ν.add nx (.pointer (some ⟨w.heap.size, 0, none⟩)), _, .value (.pointer (some ⟨w.heap.size, 0, none⟩)), by simp [execOp, hoo, Instr.alloc, hz, newVar, newRow, newObj, Sem.run]; rfl, Nm.add_ext hnx, Nm.add_new,
        new_block hS t _, ⟨⟨_, _, Nm.add_self, rfl, hE σ, by simp⟩, trivial⟩, ⟨_, rfl, .ref nx 0 _ Nm.add_self⟩⟩
  · split at h
    case h_2 => exact h.elim
    rename_i z hz
    obtain ⟨hz1, h⟩ := bif_f h
    have hzr : ∀ w, (zeroValue t).run P w = .ok z w := by
      intro w
      obtain ⟨i, hi, hz⟩ := Option.bind_eq_some_iff.1 hz
      simp [zeroValue, typeInfo, hi, hz]
    refine ⟨_, _, _, [], h, rfl, List.nodup_nil, by simp, fun ins ho hS oo hoo => ?_⟩
    cases ins with
    | cons => exact ho.elim
    | nil =>
      have hr := zero_row (D := D) (ν := ν.add nx (.pointer (some ⟨w.heap.size, 0, none⟩))) (σ := σ) hz1
      refine ⟨_, σ, ν.add nx (.pointer (some ⟨w.heap.size, 0, none⟩)), _, .value (.pointer (some ⟨w.heap.size, 0, none⟩)), by simp [execOp, hoo, Instr.alloc, hzr, newVar, newRow, newObj, Sem.run]; rfl, Nm.add_ext hnx, Nm.add_new,
        new_block hS t _, ⟨⟨_, _, Nm.add_self, rfl, ?_⟩, trivial⟩, ⟨_, rfl, .ref nx 0 _ Nm.add_self⟩⟩
      rw [resL_id hr]; exact hr

theorem e_box {t : TypeId} {x : Operand} (hnx : ν nx = none) (k : Kn D ν σ n f w e ob lkc oh) (h : effOp P D e ob nx (.box t x) K) : EffOk P D ν σ w ob lkc nx (ev n f) (.box t x) K := by
  have hx := k.e x
  have run : ∀ oo : Oper, oo.op = .box t x → (execOp (ev n f) oo).run P w = .ok (.value (.pointer (some ⟨w.heap.size, 0, none⟩))) (w.alloc (.cells (ev n f x).cells t)) := by
    intro oo hoo
    simp [execOp, hoo, Instr.box, newVar, newRow, newObj, Sem.run]
  simp only [effOp] at h
  split at h
  · rename_i T N l hxe
    refine ⟨_, _, _, [], h, rfl, List.nodup_nil, by simp, fun ins ho hS oo hoo => ?_⟩
    cases ins with
    | cons => exact ho.elim
    | nil =>
      refine ⟨_, σ, ν.add nx (.pointer (some ⟨w.heap.size, 0, none⟩)), _, _, run oo hoo, Nm.add_ext hnx, Nm.add_new, new_block hS t _, ⟨⟨_, _, Nm.add_self, rfl, ?_⟩, trivial⟩, ⟨_, rfl, .ref nx 0 _ Nm.add_self⟩⟩
      rw [hxe] at hx
      generalize ev n f x = v at hx
      cases hx with
      | arr cs _ _ _ hN hl hr => exact ⟨⟨hl, hr⟩, hN⟩
  · obtain ⟨l, hl, h⟩ := optK_some h
    refine ⟨_, _, _, [], h, rfl, List.nodup_nil, by simp, fun ins ho hS oo hoo => ?_⟩
    cases ins with
    | cons => exact ho.elim
    | nil =>
      refine ⟨_, σ, ν.add nx (.pointer (some ⟨w.heap.size, 0, none⟩)), _, _, run oo hoo, Nm.add_ext hnx, Nm.add_new, new_block hS t _, ⟨⟨_, _, Nm.add_self, rfl, ?_⟩, trivial⟩, ⟨_, rfl, .ref nx 0 _ Nm.add_self⟩⟩
      have hr := (cellsS_ok hx hl).mono (Nm.add_ext (v := .pointer (some ⟨w.heap.size, 0, none⟩)) hnx) (Sub.refl σ)
      rw [resL_id hr]; exact hr

/-! Lists are frozen. -/
theorem st_triv {ms : List HObj} (h : St c w σ ms) : St c w σ (triv :: ms) := h.add (.refl _ _) trivial (by intro k hk; cases hk)
theorem freeze_one {ms : List HObj} {ety : TypeId} {T : S.C} {v : Value} {xs : List Value} {l : List (S.car T)} (hD : D.Ok) (h : St c w σ (vec v ety (D.size T) l.length xs :: ms)) (hE : Els D σ T xs l) (hl : l.length ≤ 140737488355328) :
    ∃ σ1, St c w σ1 (triv :: ms) ∧ Sub σ σ1 ∧ RepF D σ1 v (.sl T l) := by
  obtain ⟨σ1, h1, h2, h3⟩ := h.freeze' (i := 0) rfl rfl
  refine ⟨σ1, st_triv h1, h2, RepF.ofRSl hD (RSl.ofVec (h.get (i := 0) rfl) h3 rfl hl fun i x hx => ⟨?_, (hE.2 i x hx).mono h2⟩)⟩
  rw [(hE.2 i x hx).1, hD.len]
theorem freeze_all (hD : D.Ok) : ∀ {fz : List Nat} {outs tlo : List (Nat × AO S)} {ms ins : List HObj}, frzs ob fz = some outs → tlo.map (·.1) = fz → (∀ q ∈ tlo, ob q.1 = some q.2) → Objs D ν σ lkc tlo ins → St c w σ (ms ++ ins) →
    ∃ σ1 ms1, St c w σ1 (ms ++ ms1) ∧ Sub σ σ1 ∧ Objs D ν σ1 lkc outs ms1 := by
  intro fz
  induction fz generalizing σ with
  | nil =>
    intro outs tlo ms ins hf ht _ ho hS
    cases hf
    cases tlo with
    | cons => cases ht
    | nil =>
      cases ins with
      | cons => exact ho.elim
      | nil => exact ⟨σ, [], hS, Sub.refl _, trivial⟩
  | cons o fz ih =>
    intro outs tlo ms ins hf ht hq ho hS
    cases tlo with
    | nil => cases ht
    | cons q tlo =>
      obtain ⟨o', a⟩ := q
      injection ht with h1 h2
      simp only at h1
      subst h1
      cases ins with
      | nil => exact ho.elim
      | cons m ins =>
        simp only [frzs] at hf
        cases hb : hasN fz o' with
        | true => rw [hb] at hf; cases hf
        | false =>
          rw [hb] at hf
          simp only [cond_false] at hf
          split at hf
          case h_2 => cases hf
          rename_i ety T l r hob hr
          cases hf
          have ha := hq (o', a) (by simp)
          simp only at ha
          rw [hob] at ha; cases ha
          obtain ⟨v, xs, hν, hm, hE, hl⟩ := ho.1
          subst hm
          have hS1 := hS.perm (ms' := vec v ety (D.size T) l.length xs :: (ms ++ ins)) List.perm_middle
          obtain ⟨σ1, hS2, hs1, hrep⟩ := freeze_one hD hS1 hE hl
          have hS3 := hS2.perm (ms' := (ms ++ [triv]) ++ ins) (by simpa using (List.perm_middle (a := triv) (l₁ := ms) (l₂ := ins)).symm)
          obtain ⟨σ2, ms1, hS4, hs2, ho2⟩ := ih hr h2 (fun q hq' => hq q (by simp [hq'])) (ho.2.mono (Ext.refl ν) hs1) hS3
          exact ⟨σ2, triv :: ms1, by simpa using hS4, hs1.trans hs2, ⟨v, hν, rfl, hrep.mono hs2⟩, ho2⟩

/-! Stores. -/
theorem run_store {t : TypeId} {b o T k : Nat} {v : Value} {cs vs : List Value} {r : Operand → Value} {a x : Operand} {oo : Oper} (ho : oo.op = .store t a x) (ha : r a = .pointer (some ⟨b, o, none⟩)) (hx : r x = v) (hvs : v.cells.toList = vs)
    (hs : ∀ w, (sizeOf t).run P w = .ok k w) (hl : vs.length = k) (h1 : ∀ u ∈ vs, u.oneCell' = true) (hb : w.heap[b]? = some (.cells cs.toArray T (0, 0))) (hle : o + k ≤ cs.length) :
    (execOp r oo).run P w = .ok .skip (w.setRow b (splice cs o vs).toArray) := by
  have hr := run_storeCells_at P b o T vs 0 cs.toArray w hb (by simpa [hl] using hle) h1
  have hsz : v.cells.size = k := by rw [← Array.length_toList, hvs, hl]
  simp only [Nat.add_zero] at hr
  have h2 : (storeVar t ⟨b, o, none⟩ v).run P w = .ok () (w.setRow b (splice cs o vs).toArray) := by
    simp only [storeVar, Sem.run_bind, hs, Result.andThen_ok, hsz, hvs]
    simpa [splice] using hr
  simp [execOp, ho, ha, hx, Instr.storeAt, Instr.sureAddr, h2]
theorem run_storeV {t : TypeId} {g cap T size k o j : Nat} {v : Value} {xs vs : List Value} {r : Operand → Value} {a x : Operand} {oo : Oper} (hoo : oo.op = .store t a x) (ha : r a = .pointer (some ⟨g, o, none⟩)) (hx : r x = v) (hvs : v.cells.toList = vs)
    (hs : ∀ w, (sizeOf t).run P w = .ok j w) (hl : vs.length = j) (h1 : ∀ u ∈ vs, u.oneCell' = true) (hv : (vec (.slice (some ⟨g, 0, none⟩) k cap) T size k xs).ok w) (ho : o + j ≤ k * size) :
    ∃ w', (execOp r oo).run P w = .ok .skip w' ∧ Keeps [g] w w' ∧ (vec (.slice (some ⟨g, 0, none⟩) k cap) T size k (splice xs o vs)).ok w' := by
  obtain ⟨hlen, hor⟩ := hv
  rcases hor with ⟨hbad, _⟩ | ⟨g', cap', cur, heq, _, hb, hk, hm, hcur, htake⟩
  · cases hbad
  · obtain ⟨rfl, rfl⟩ : g = g' ∧ cap = cap' := by simpa using heq
    have hle : k * size ≤ cap * size := Nat.mul_le_mul_right _ hk
    have hb' : w.heap[g]? = some (.cells cur.toList.toArray T (0, 0)) := by rw [Array.toArray_toList]; exact hb
    refine ⟨_, run_store (P := P) hoo ha hx hvs hs hl h1 hb' (by rw [Array.length_toList, hcur]; omega), setRow_keeps hb _, ?_, .inr ⟨g, cap, _, rfl, Nat.zero_le _, setRow_heap w g cur _ T _ hb, hk, hm, ?_, ?_⟩⟩
    · unfold splice; simp only [List.length_append, List.length_take, List.length_drop]; omega
    · unfold splice; simp only [List.size_toArray, List.length_append, List.length_take, List.length_drop, Array.length_toList]; omega
    · exact splice_take htake (by omega) (by simp; omega)

theorem rowF_splice {cs vs : List Value} {l ss : List (FV S)} {off : Nat} (h : RowF D σ cs l) (k : RowF D σ vs ss) (hle : off + ss.length ≤ l.length) :
    RowF D σ (cs.take off ++ vs ++ cs.drop (off + vs.length)) (l.take off ++ ss ++ l.drop (off + ss.length)) := by
  have e1 := h.1
  have e2 := k.1
  refine ⟨by simp only [List.length_append, List.length_take, List.length_drop]; omega, fun j v s hj hs => ?_⟩
  have t1 : (cs.take off).length = off := by rw [List.length_take]; omega
  have t2 : (l.take off).length = off := by rw [List.length_take]; omega
  rw [List.append_assoc] at hj hs
  rcases Nat.lt_or_ge j off with hlt | hge
  · rw [List.getElem?_append_left (by omega)] at hj hs
    rw [List.getElem?_take_of_lt hlt] at hj hs
    exact h.2 j v s hj hs
  · rw [List.getElem?_append_right (by omega)] at hj hs
    rw [t1] at hj; rw [t2] at hs
    rcases Nat.lt_or_ge (j - off) ss.length with hlt | hge'
    · rw [List.getElem?_append_left (by omega)] at hj hs
      exact k.2 _ v s hj hs
    · rw [List.getElem?_append_right (by omega)] at hj hs
      rw [List.getElem?_drop] at hj hs
      have e3 : off + vs.length + (j - off - vs.length) = off + ss.length + (j - off - ss.length) := by omega
      rw [e3] at hj
      exact h.2 _ v s hj hs
theorem noLk_sub {g : Nat → SV S} : ∀ {l : List (SV S)} {i : Nat}, (resL g i l).length = l.length
  | [], _ => rfl
  | s :: l, i => by cases s <;> simp [resL, noLk_sub]
theorem resL_drop {g : Nat → SV S} : ∀ {l : List (SV S)} {i k : Nat}, (resL g i l).drop k = resL g (i + k) (l.drop k)
  | [], _, _ => by simp [resL]
  | s :: l, i, 0 => by simp
  | s :: l, i, k + 1 => by
    have : (resL g i (s :: l)).drop (k + 1) = (resL g (i + 1) l).drop k := by cases s <;> simp [resL]
    rw [this, resL_drop, List.drop_succ_cons, Nat.add_assoc, Nat.add_comm 1 k]
theorem resL_take {g : Nat → SV S} : ∀ {l : List (SV S)} {i k : Nat}, (resL g i l).take k = resL g i (l.take k)
  | [], _, _ => by simp [resL]
  | s :: l, i, 0 => by simp [resL]
  | s :: l, i, k + 1 => by cases s <;> simp [resL, resL_take]
theorem resL_append {g : Nat → SV S} : ∀ {l l' : List (SV S)} {i : Nat}, resL g i (l ++ l') = resL g i l ++ resL g (i + l.length) l'
  | [], _, _ => by simp [resL]
  | s :: l, l', i => by
    have e1 : i + (s :: l).length = i + 1 + l.length := by simp; omega
    rw [e1]
    cases s <;> simp [resL, resL_append]
theorem splice_els {T : S.C} {xs vs : List Value} {l : List (S.car T)} {i off : Nat} {y y' : S.car T} (hE : Els D σ T xs l) (hy : l[i]? = some y) (hle : off + vs.length ≤ D.size T)
    (hr : ∀ cs, RowF D σ cs (D.shape T y) → RowF D σ (cs.take off ++ vs ++ cs.drop (off + vs.length)) (D.shape T y')) : Els D σ T (splice xs (i * D.size T + off) vs) (l.set i y') := by
  have hi := lt_of_getq hy
  have h1 : (i + 1) * D.size T ≤ l.length * D.size T := Nat.mul_le_mul_right _ hi
  rw [Nat.add_mul, Nat.one_mul] at h1
  have hl := hE.1
  refine ⟨by unfold splice; simp only [List.length_append, List.length_take, List.length_drop, List.length_set]; omega, fun j x hx => ?_⟩
  rw [List.getElem?_set] at hx
  have part : ∀ m, (splice xs (i * D.size T + off) vs)[m]? = if m < i * D.size T + off then xs[m]? else if m < i * D.size T + off + vs.length then vs[m - (i * D.size T + off)]? else xs[m]? := by
    intro m
    unfold splice
    have t1 : (xs.take (i * D.size T + off)).length = i * D.size T + off := by rw [List.length_take]; omega
    rw [List.append_assoc]
    split
    · rename_i h
      rw [List.getElem?_append_left (by omega), List.getElem?_take_of_lt h]
    · rename_i h
      rw [List.getElem?_append_right (by omega), t1]
      split
      · rename_i h2
        rw [List.getElem?_append_left (by omega)]
      · rename_i h2
        rw [List.getElem?_append_right (by omega), List.getElem?_drop]
        congr 1; omega
  by_cases hij : i = j
  · subst hij
    rw [if_pos rfl, if_pos hi] at hx
    cases hx
    have := hr _ (hE.2 i y hy)
    have e : ((splice xs (i * D.size T + off) vs).drop (i * D.size T)).take (D.size T) = ((xs.drop (i * D.size T)).take (D.size T)).take off ++ vs ++ ((xs.drop (i * D.size T)).take (D.size T)).drop (off + vs.length) := by
      apply List.ext_getElem?
      intro m
      rw [List.getElem?_take]
      have c1 : (((xs.drop (i * D.size T)).take (D.size T)).take off).length = off := by simp only [List.length_take, List.length_drop]; omega
      rw [List.append_assoc]
      by_cases hm : m < D.size T
      · rw [if_pos hm, List.getElem?_drop, part]
        by_cases h2 : m < off
        · rw [if_pos (by omega), List.getElem?_append_left (by omega), List.getElem?_take_of_lt h2, List.getElem?_take_of_lt hm, List.getElem?_drop]
        · rw [if_neg (by omega), List.getElem?_append_right (by omega), c1]
          by_cases h3 : m < off + vs.length
          · rw [if_pos (by omega), List.getElem?_append_left (by omega)]
            congr 1; omega
          · rw [if_neg (by omega), List.getElem?_append_right (by omega), List.getElem?_drop, List.getElem?_take_of_lt (by omega), List.getElem?_drop]
            congr 1; omega
      · rw [if_neg hm]
        symm
        apply List.getElem?_eq_none
        simp only [List.length_append, List.length_take, List.length_drop]
        omega
    rw [e]; exact this
  · rw [if_neg hij] at hx
    have hj := lt_of_getq hx
    have e : ((splice xs (i * D.size T + off) vs).drop (j * D.size T)).take (D.size T) = (xs.drop (j * D.size T)).take (D.size T) := by
      apply List.ext_getElem?
      intro m
      rw [List.getElem?_take, List.getElem?_take]
      split
      · rename_i hm
        rw [List.getElem?_drop, List.getElem?_drop, part]
        rcases Nat.lt_or_gt_of_ne hij with h | h
        · have h3 : (i + 1) * D.size T ≤ j * D.size T := Nat.mul_le_mul_right _ h
          rw [Nat.add_mul, Nat.one_mul] at h3
          rw [if_neg (by omega), if_neg (by omega)]
        · have h3 : (j + 1) * D.size T ≤ i * D.size T := Nat.mul_le_mul_right _ h
          rw [Nat.add_mul, Nat.one_mul] at h3
          rw [if_pos (by omega)]
      · rfl
    rw [e]; exact hE.2 j x hx

theorem resL_noLk {g : Nat → SV S} : ∀ {l : List (SV S)} {i : Nat}, noLk l = true → resL g i l = l
  | [], _, _ => rfl
  | s :: l, i, h => by cases s <;> first | cases h | (simp only [noLk] at h; simp [resL, resL_noLk h])
theorem toFs_len {ss : List (SV S)} {xs : List (FV S)} {fz : List Nat} (h : toFs ob ss = some (xs, fz)) : xs.length = ss.length := by
  induction ss generalizing xs fz with
  | nil => cases h; rfl
  | cons s ss ih =>
    simp only [toFs] at h
    split at h
    case h_2 => cases h
    split at h
    case h_2 => cases h
    rename_i h2
    cases h
    simp [ih h2]
/-- The cells of a value, once what must be frozen is so. -/
theorem toFs_ok {ss : List (SV S)} {cs : List Value} {xs : List (FV S)} {fz : List Nat} (hD : D.Ok) (ho : ∀ o a, ob o = some a → ORep D ν σ lkc o a (oh o)) (hs' : Sub σ τ) (hs : RowS D ν σ cs ss) (h : toFs ob ss = some (xs, fz))
    (hf : ∀ o e T l v, o ∈ fz → ob o = some (.vec e T l) → ν o = some v → RepF D τ v (.sl T l)) : RowF D τ cs xs := by
  induction ss generalizing cs xs fz with
  | nil => cases h; exact ⟨hs.1, fun j v s hj hk => by cases hk⟩
  | cons s ss ih =>
    cases cs with
    | nil => have := hs.1; cases this
    | cons c cs =>
      simp only [toFs] at h
      split at h
      case h_2 => cases h
      rename_i x a hx
      split at h
      case h_2 => cases h
      rename_i xs' b hxs
      cases h
      have h1 := toF_ok hD ho (hs.2.1 0 c s rfl rfl) hx
      have h2 := ih (cs := cs) ⟨by have := hs.1; simpa using this, fun j v s hj hk => hs.2.1 (j + 1) v s (by simpa using hj) (by simpa using hk), fun v hv => hs.2.2 v (by simp [hv])⟩ hxs (fun o e T l v hm => hf o e T l v (by simp [hm]))
      refine ⟨by simp [h2.1], fun j v s hj hk => ?_⟩
      cases j with
      | zero =>
        cases hj; cases hk
        rcases h1 with ⟨_, h1⟩ | ⟨o, e, T, l, h0, hx', hob, hν⟩
        · exact h1.mono hs'
        · subst h0 hx'
          exact hf o e T l _ (by simp) hob hν
      | succ j => exact h2.2 j v s (by simpa using hj) (by simpa using hk)

theorem hasN_mem {l : List Nat} {o : Nat} (h : hasN l o = false) : o ∉ l := by
  induction l with
  | nil => simp
  | cons a l ih =>
    simp only [hasN] at h
    cases hb : Nat.beq a o with
    | true => rw [hb] at h; cases h
    | false =>
      rw [hb] at h
      intro hm
      rcases List.mem_cons.1 hm with rfl | hm
      · simp at hb
      · exact ih h hm
theorem frzs_spec : ∀ {fz : List Nat} {outs : List (Nat × AO S)}, frzs ob fz = some outs → ∃ tlo : List (Nat × AO S), tlo.map (·.1) = fz ∧ fz.Nodup ∧ (∀ q ∈ tlo, ob q.1 = some q.2) ∧ ∀ o e T l, o ∈ fz → ob o = some (.vec e T l) → (o, AO.frz T l) ∈ outs := by
  intro fz
  induction fz with
  | nil => intro outs h; cases h; exact ⟨[], rfl, List.nodup_nil, by simp, by simp⟩
  | cons o fz ih =>
    intro outs h
    simp only [frzs] at h
    cases hb : hasN fz o with
    | true => rw [hb] at h; cases h
    | false =>
      rw [hb] at h
      simp only [cond_false] at h
      split at h
      case h_2 => cases h
      rename_i e T l r hob hr
      cases h
      obtain ⟨tlo, h1, h2, h3, h4⟩ := ih hr
      refine ⟨(o, .vec e T l) :: tlo, by simp [h1], List.nodup_cons.2 ⟨hasN_mem hb, h2⟩, ?_, ?_⟩
      · intro q hq
        rcases List.mem_cons.1 hq with rfl | hq
        · exact hob
        · exact h3 q hq
      · intro o' e' T' l' hm hob'
        rcases List.mem_cons.1 hm with rfl | hm
        · rw [hob] at hob'; cases hob'; simp
        · exact List.mem_cons_of_mem _ (h4 o' e' T' l' hm hob')
theorem Objs.mem : ∀ {os : List (Nat × AO S)} {ms : List HObj}, Objs D ν σ lkc os ms → ∀ {o a}, (o, a) ∈ os → ∃ m, ORep D ν σ lkc o a m
  | [], [], _, _, _, hm => by cases hm
  | (o', a') :: os, m :: ms, h, o, a, hm => by
    rcases List.mem_cons.1 hm with he | hm
    · cases he; exact ⟨m, h.1⟩
    · exact Objs.mem h.2 hm
/-- What has been frozen reads as it should. -/
theorem frz_rep {fz : List Nat} {outs : List (Nat × AO S)} {ms : List HObj} (hf : frzs ob fz = some outs) (ho : Objs D ν σ lkc outs ms) : ∀ o e T l v, o ∈ fz → ob o = some (.vec e T l) → ν o = some v → RepF D σ v (.sl T l) := by
  intro o e T l v hm hob hν
  obtain ⟨_, _, _, _, h4⟩ := frzs_spec hf
  obtain ⟨m, v', hν', _, hr⟩ := ho.mem (h4 o e T l hm hob)
  rw [hν] at hν'; cases hν'
  exact hr
theorem blk_ok {b T : Nat} {cs : List Value} {w : World} (h : (blk b T cs).ok w) : w.heap[b]? = some (.cells cs.toArray T (0, 0)) := h
/-- One object is written. -/
theorem step1 {w w' : World} {h h' : HObj} {ms : List HObj} (hS : St c w σ (h :: ms)) (hk : Keeps h.foot.toList w w') (ho : h'.ok w') (hf : h'.foot = h.foot) : St c w' σ (h' :: ms) :=
  hS.step (i := 0) rfl hk ho (fun k hk => .inl (by rw [← hf]; exact hk)) rfl hS.view.none_of_ge

theorem splice_ones {cs : List Value} {ss : List (SV S)} (h : RowS D ν σ cs ss) : ∀ u ∈ cs, u.oneCell' = true := h.2.2
theorem e_store_cells {t : TypeId} {a x : Operand} {o off b : Nat} {ty : TypeId} {l cs : List (SV S)} (k : Kn D ν σ n f w e ob lkc oh) (hν : ν o = some (.pointer (some ⟨b, 0, none⟩))) (ha : ev n f a = .pointer (some ⟨b, off, none⟩)) (hob : ob o = some (.cells ty l))
    (hcs : cellsS (e x) = some cs) (hT : hasT P t = true) (hsz : szQ P t = cs.length) (hle : off + cs.length ≤ l.length) (hlk : noLk ((l.drop off).take cs.length) = true)
    (h : K [o] [(o, .cells ty (l.take off ++ cs ++ l.drop (off + cs.length)))] none) : EffOk P D ν σ w ob lkc nx (ev n f) (.store t a x) K := by
  have _ := hlk
  refine ⟨_, _, _, [(o, .cells ty l)], h, rfl, by simp, by simpa using hob, fun ins ho hS oo hoo => ?_⟩
  match ins, ho with
  | [m], ho =>
    obtain ⟨b', cs0, hν', hm, hrow⟩ := ho.1
    rw [hν] at hν'; cases hν'
    subst hm
    have hlen : cs0.length = l.length := by rw [hrow.1, noLk_sub]
    have hr := cellsS_ok (k.e x) hcs
    have hlv : (ev n f x).cells.toList.length = szQ P t := by rw [hr.1, hsz]
    have hok := blk_ok (hS.get (i := 0) rfl)
    refine ⟨_, σ, ν, _, _, run_store (P := P) hoo ha rfl rfl (fun w => run_szQ hT w) hlv hr.2.2 hok (by omega), Ext.refl ν, fun m u hu => .inl hu,
      step1 (h' := blk b ty _) hS (setRow_keeps hok _) (setRow_heap w b _ _ _ _ hok) rfl, ⟨⟨b, _, hν, rfl, ?_⟩, trivial⟩, rfl⟩
    have h2 := rowS_splice hrow hr (by rw [noLk_sub]; exact hle)
    unfold splice
    rw [resL_append, resL_append, ← resL_take, resL_id hr]
    have e1 : (0 : Nat) + (l.take off ++ cs).length = 0 + (off + cs.length) := by simp only [List.length_append, List.length_take]; omega
    rw [e1, ← resL_drop]
    exact h2

theorem e_store {t : TypeId} {a x : Operand} (hP : D.OkP P) (k : Kn D ν σ n f w e ob lkc oh) (h : effOp P D e ob nx (.store t a x) K) : EffOk P D ν σ w ob lkc nx (ev n f) (.store t a x) K := by
  have hD := hP.ok
  have hor : ∀ o a, ob o = some a → ORep D ν σ lkc o a (oh o) := fun o a h => (k.o o a h).1
  simp only [effOp] at h
  have ka := k.e a
  generalize hva : ev n f a = va at ka
  generalize e a = sa at h ka
  cases ka with
  | ref o off b hν =>
    simp only at h
    split at h
    · rename_i ty l hob
      obtain ⟨cs, hcs, h⟩ := optK_some h
      obtain ⟨hc, h⟩ := bif_f h
      obtain ⟨hc, h4⟩ := and_b hc
      obtain ⟨hc, h3⟩ := and_b hc
      obtain ⟨h1, h2⟩ := and_b hc
      exact e_store_cells k hν hva hob hcs h1 (Nat.eq_of_beq_eq_true h2) (Nat.le_of_ble_eq_true h3) h4 h
    · rename_i ty T N l0 hob
      split at h
      case h_2 => exact h.elim
      rename_i T' N' l' hxe
      obtain ⟨hc, h⟩ := bif_f h
      obtain ⟨hc, h4⟩ := and_b hc
      obtain ⟨hc, h3⟩ := and_b hc
      obtain ⟨h1, h2⟩ := and_b hc
      have h1 := Nat.eq_of_beq_eq_true h1
      have h2 := Nat.eq_of_beq_eq_true h2
      have h4 := Nat.eq_of_beq_eq_true h4
      obtain ⟨e1, h⟩ := cast_ok h
      subst e1
      refine ⟨_, _, _, [(o, .arr ty T' N l0)], h, rfl, by simp, by simpa using hob, fun ins ho hS oo hoo => ?_⟩
      match ins, ho with
      | [m], ho =>
        obtain ⟨b', cs0, hν', hm, hE, hN⟩ := ho.1
        rw [hν] at hν'; cases hν'
        subst hm
        have kx := hxe ▸ k.e x
        have hok := blk_ok (hS.get (i := 0) rfl)
        generalize hvx : ev n f x = vx at kx
        cases kx with
        | arr cs _ _ _ hN' hl hr =>
          have hlv : cs.length = szQ P t := by rw [hl, hN', ← h2, h4]
          have hl0 : cs0.length = cs.length := by rw [hE.1, hN, hl, hN', h2]
          have hones : ∀ u ∈ cs, u.oneCell' = true := by
            intro u hu
            obtain ⟨j, hj⟩ := List.mem_iff_getElem?.1 hu
            have hjl := lt_of_getq hj
            have hpos := hD.pos T'
            have hdiv : j / D.size T' < l'.length := by rw [Nat.div_lt_iff_lt_mul hpos]; omega
            obtain ⟨y, hy⟩ := getq hdiv
            have hrow := hr _ y hy
            have hm : ((cs.drop (j / D.size T' * D.size T')).take (D.size T'))[j % D.size T']? = some u := by
              rw [List.getElem?_take_of_lt (Nat.mod_lt _ hpos), List.getElem?_drop]
              have : j / D.size T' * D.size T' + j % D.size T' = j := by rw [Nat.mul_comm]; exact Nat.div_add_mod j _
              rw [this]; exact hj
            obtain ⟨s, hs⟩ := getq (l := D.shape T' y) (k := j % D.size T') (by rw [← hrow.1]; exact lt_of_getq hm)
            exact (hrow.2 _ u s hm hs).one
          subst h1
          refine ⟨_, σ, ν, _, _, run_store (P := P) (vs := cs) hoo hva hvx rfl (fun w => run_szQ h3 w) hlv hones hok (by omega), Ext.refl ν, fun m u hu => .inl hu,
            step1 (h' := blk b ty _) hS (setRow_keeps hok _) (setRow_heap w b _ _ _ _ hok) rfl, ⟨⟨b, _, hν, rfl, ?_, hN'.trans h2.symm⟩, trivial⟩, rfl⟩
          rw [splice_all hl0.symm]
          exact ⟨hl, hr⟩
    · exact h.elim
  | eref T o i off b m cap hν hi =>
    simp only at h
    split at h
    case h_2 => exact h.elim
    rename_i ety T' l hob
    obtain ⟨e1, h⟩ := cast_ok h
    subst e1
    obtain ⟨cs, hcs, h⟩ := optK_some h
    obtain ⟨q, hq, h⟩ := optK_some h
    obtain ⟨fz, hfz, h⟩ := optK_some h
    obtain ⟨hc, h⟩ := bif_f h
    obtain ⟨hc, h4⟩ := and_b hc
    obtain ⟨hc, h3⟩ := and_b hc
    obtain ⟨h1, h2⟩ := and_b hc
    have h2 := Nat.eq_of_beq_eq_true h2
    have h3 := Nat.le_of_ble_eq_true h3
    obtain ⟨xs, fn⟩ := q
    simp only at hfz h h4
    obtain ⟨hR, hok0⟩ := k.o o _ hob
    obtain ⟨v0, xs0, hν0, hh0, hE0, _⟩ := hR
    rw [hν] at hν0; cases hν0
    rw [hh0] at hok0
    have hm : m = l.length := by
      rcases (vec_shape hok0).2 with ⟨h1, _⟩ | ⟨g, cap', h1, _⟩
      · cases h1
      · cases h1; rfl
    subst hm
    obtain ⟨y, hy⟩ := getq (l := l) (k := i) (by omega)
    obtain ⟨y', hy', h⟩ := optK_some (h y hy)
    obtain ⟨tlo, ht1, ht2, ht3, _⟩ := frzs_spec hfz
    have hno : o ∉ fn := hasN_mem (by simpa using h4)
    refine ⟨_, _, _, (o, .vec ety T' l) :: tlo, h, by simp [ht1], List.nodup_cons.2 ⟨hno, ht2⟩, ?_, fun ins ho hS oo hoo => ?_⟩
    · intro q hq
      rcases List.mem_cons.1 hq with rfl | hq
      · exact hob
      · exact ht3 q hq
    match ins, ho with
    | mo :: ins, ho =>
      obtain ⟨v1, xs1, hν1, hm1, hE, hl47⟩ := ho.1
      rw [hν] at hν1; cases hν1
      subst hm1
      obtain ⟨σ1, ms1, hS1, hs1, ho1⟩ := freeze_all (ms := [vec (.slice (some ⟨b, 0, none⟩) l.length cap) ety (D.size T') l.length xs1]) hD hfz ht1 ht3 ho.2 hS
      have hr := cellsS_ok (k.e x) hcs
      have hrF := toFs_ok hD hor hs1 hr hq (frz_rep hfz ho1)
      have hlv : (ev n f x).cells.toList.length = szQ P t := by rw [hr.1, h2]
      have hb1 : (i + 1) * D.size T' ≤ l.length * D.size T' := Nat.mul_le_mul_right _ (lt_of_getq hy)
      rw [Nat.add_mul, Nat.one_mul] at hb1
      obtain ⟨w', hrun, hkeep, hok'⟩ := run_storeV (P := P) hoo hva rfl rfl (fun w => run_szQ h1 w) hlv hr.2.2 (hS1.get (i := 0) rfl) (by omega)
      have hE1 := hE.mono hs1
      refine ⟨w', σ1, ν, _, _, hrun, Ext.refl ν, fun m u hu => .inl hu, step1 (h' := vec (.slice (some ⟨b, 0, none⟩) l.length cap) ety (D.size T') l.length _) hS1 hkeep hok' rfl, ⟨⟨_, splice xs1 (i * D.size T' + off) (ev n f x).cells.toList, hν, by simp, ?_, by simpa using hl47⟩, ho1⟩, rfl⟩
      refine splice_els hE1 hy (by rw [hr.1]; exact h3) fun cs1 hcs1 => ?_
      have hx := toFs_len hq
      refine hD.bld _ _ _ _ _ hy' ?_
      rw [hr.1, ← hx]
      have hh := rowF_splice hcs1 hrF (off := off) (by rw [hD.len, hx]; exact h3)
      rw [hrF.1] at hh
      exact hh
  | aref T N o i off b hν hi =>
    simp only at h
    split at h
    case h_2 => exact h.elim
    rename_i ty T' N' l hob
    obtain ⟨hN, h⟩ := bif_f h
    have hN := Nat.eq_of_beq_eq_true hN
    obtain ⟨e1, h⟩ := cast_ok h
    subst e1
    obtain ⟨cs, hcs, h⟩ := optK_some h
    obtain ⟨q, hq, h⟩ := optK_some h
    obtain ⟨hc, h⟩ := bif_f h
    obtain ⟨hc, h3⟩ := and_b hc
    obtain ⟨hc, h2⟩ := and_b hc
    obtain ⟨h0, h1⟩ := and_b hc
    have h2 := Nat.eq_of_beq_eq_true h2
    have h3 := Nat.le_of_ble_eq_true h3
    obtain ⟨xs, fz⟩ := q
    have hfz : fz = [] := by simpa using h0
    subst hfz
    obtain ⟨hR, _⟩ := k.o o _ hob
    obtain ⟨_, _, _, _, _, hlN⟩ := hR
    obtain ⟨y, hy⟩ := getq (l := l) (k := i) (by omega)
    obtain ⟨y', hy', h⟩ := optK_some (h y hy)
    refine ⟨_, _, _, [(o, .arr ty T' N' l)], h, rfl, by simp, by simpa using hob, fun ins ho hS oo hoo => ?_⟩
    match ins, ho with
    | [m], ho =>
      obtain ⟨b', cs0, hν', hm, hE, hN'⟩ := ho.1
      rw [hν] at hν'; cases hν'
      subst hm
      have hok := blk_ok (hS.get (i := 0) rfl)
      have hr := cellsS_ok (k.e x) hcs
      have hrF := toFs_nil hD hor hr hq
      have hlv : (ev n f x).cells.toList.length = szQ P t := by rw [hr.1, h2]
      have hb1 : (i + 1) * D.size T' ≤ l.length * D.size T' := Nat.mul_le_mul_right _ (lt_of_getq hy)
      rw [Nat.add_mul, Nat.one_mul] at hb1
      have hl0 := hE.1
      refine ⟨_, σ, ν, _, _, run_store (P := P) hoo hva rfl rfl (fun w => run_szQ h1 w) hlv hr.2.2 hok (by omega), Ext.refl ν, fun m u hu => .inl hu,
        step1 (h' := blk b ty _) hS (setRow_keeps hok _) (setRow_heap w b _ _ _ _ hok) rfl, ⟨⟨b, _, hν, rfl, ?_, by simpa using hN'⟩, trivial⟩, rfl⟩
      refine splice_els hE hy (by rw [hr.1]; exact h3) fun cs1 hcs1 => ?_
      have hx := toFs_len hq
      refine hD.bld _ _ _ _ _ hy' ?_
      rw [hr.1, ← hx]
      have hh := rowF_splice hcs1 hrF (off := off) (by rw [hD.len, hx]; exact h3)
      rw [hrF.1] at hh
      exact hh
  | _ => exact h.elim
#print axioms freeze_all
end Go.Fx
