/- SegmentReferences: for every input of bulk at most 1048576 the law returns true and leaves its arguments as they were. This is part 3 of 6. Conditions: those in the statements. -/
import Derived.Test.YthpeboomdlgfaaaGreatDoorR2
section
namespace Go.Fx
open Go Go.RowKit Go.Fl Go.Fl.Lk
variable {S : Sig} {P : Program} {D : Shp S} {ν ν' ν0 : Nm} {σ τ : Hv} {n : Nat} {f : Fr}
variable {w : World} {cx : Cx} {ro : Ro S} {st : AS S} {ms : List HObj}
/-- What the package's variables hold. -/
structure Glb (D : Shp S) (σ : Hv) : Prop where
  known : ∀ g, SRep D (fun _ => none) σ (.pointer (some ⟨g, 0, none⟩)) (D.glob g)
  free : ∀ g k, D.gopen g = some k → ∃ n : Int, σ.cell ⟨g, 0, none⟩ = some (.int k n)
theorem Glb.mono {D : Shp S} {σ τ : Hv} (h : Glb D σ) (hs : Sub σ τ) : Glb D τ := ⟨fun g => (h.known g).mono (Ext.refl _) hs, fun g k hk => (h.free g k hk).imp fun _ h => hs.cell h⟩
theorem globMono {a b : Nat → SV S} {D : Shp S} {σ τ : Hv} (h : a = b ∧ Glb D σ) (hs : Sub σ τ) : a = b ∧ Glb D τ := ⟨h.1, h.2.mono hs⟩
/-- How a plain state lies in memory. -/
structure G (D : Shp S) (cx : Cx) (ν0 : Nm) (ro : Ro S) (st : AS S) (f : Fr) (w : World) (ν : Nm) (σ : Hv) (ms : List HObj) : Prop where
  mem : St cx w σ ms
  objs : Objs D ν σ ro.cell (st.objs ++ ro.objs) ms
  slots : ∀ j, SRep D ν σ (f j) (slotS ro st j)
  fresh : ∀ o, st.next ≤ o → ν o = none
  ext : Ext ν0 ν
  glob : ro.glob = D.glob ∧ Glb D σ
theorem ofConst_ok (v : Value) : SRep D ν σ v (ofConst v) := by
  unfold ofConst
  split
  · exact .lit _
  · exact .f (.int _ _)
  · exact .f (.str _)
  · exact .f .nilp
  · exact .f .nils
  · exact .f .nilm
  · exact .f .nilf
  · exact .dead _
theorem findN_append {α : Type} {os os' : List (Nat × α)} {o : Nat} : findN (os ++ os') o = match findN os o with | some a => some a | none => findN os' o := by
  induction os with
  | nil => rfl
  | cons q os ih =>
    obtain ⟨o', a⟩ := q
    simp only [List.cons_append, findN]
    cases Nat.beq o' o with
    | true => rfl
    | false => exact ih
theorem obS_find {o : Nat} : obS ro st o = findN (st.objs ++ ro.objs) o := by
  unfold obS
  rw [findN_append]
  cases findN st.objs o <;> rfl
theorem ev_ok (h : ∀ j, SRep D ν σ (f j) (slotS ro st j)) (hg : ro.glob = D.glob ∧ Glb D σ) (x : Operand) : SRep D ν σ (ev n f x) (evS n ro st x) := by
  cases x with
  | tmp t =>
    simp only [ev, evS]
    cases Nat.blt t n with
    | true => exact h t
    | false => exact .und
  | const v => exact ofConst_ok v
  | global g =>
    show SRep D ν σ _ (ro.glob g)
    rw [hg.1]; exact (hg.2.known g).mono (fun o v h => by cases h) (Sub.refl _)
  | func k => exact .fn k [] [] [] [] rfl (fun j v s h => by cases h) rfl (fun j v s h => by cases h)
theorem Objs.find : ∀ {os : List (Nat × AO S)} {ms : List HObj} {lkc : Nat → Nat → SV S}, Objs D ν σ lkc os ms → ∀ {o a}, findN os o = some a → ∃ m ∈ ms, ORep D ν σ lkc o a m
  | [], [], _, _, _, _, h => by cases h
  | (o', a') :: os, m :: ms, _, h, o, a, hf => by
    simp only [findN] at hf
    cases hb : Nat.beq o' o with
    | true =>
      rw [hb] at hf; cases hf
      rw [← Nat.eq_of_beq_eq_true hb]
      exact ⟨m, by simp, h.1⟩
    | false =>
      rw [hb] at hf
      obtain ⟨m', hm, hr⟩ := Objs.find h.2 hf
      exact ⟨m', by simp [hm], hr⟩
/-- The objects, by their names. -/
theorem G.kn (h : G D cx ν0 ro st f w ν σ ms) : ∃ oh : Nat → HObj, Kn D ν σ n f w (evS n ro st) (obS ro st) ro.cell oh ∧ ∀ o a, obS ro st o = some a → oh o ∈ ms := by
  have hc : ∀ o, ∃ m : HObj, ∀ a, obS ro st o = some a → m ∈ ms ∧ ORep D ν σ ro.cell o a m := by
    intro o
    cases ho : obS ro st o with
    | none => exact ⟨triv, fun a h => by cases h⟩
    | some a =>
      obtain ⟨m, hm, hr⟩ := h.objs.find (obS_find ▸ ho)
      exact ⟨m, fun a' h' => by cases h'; exact ⟨hm, hr⟩⟩
  refine ⟨fun o => Classical.choose (hc o), ⟨ev_ok h.slots h.glob, fun o a ho => ?_⟩, fun o a ho => (Classical.choose_spec (hc o) a ho).1⟩
  obtain ⟨h1, h2⟩ := Classical.choose_spec (hc o) a ho
  exact ⟨h2, h.mem.own _ h1⟩
def putF (f : Fr) (d : Option Nat) (v : Value) : Fr := match d with | some d => upd f d v | none => f
theorem mk_put (d : Option Nat) (v : Value) : (mk n f).put d v = mk n (putF f d v) := by
  cases d with
  | none => exact put_none n f v
  | some d => exact put_mk n f d v
theorem slot_put {d : Nat} {s : SV S} (hd : hasN ro.lock d = false) (j : Nat) : slotS ro { st with slots := updS st.slots d s } j = bif Nat.beq j d then s else slotS ro st j := by
  unfold slotS updS
  cases hj : Nat.beq j d with
  | false => simp only [hj, cond_false]
  | true =>
    have := Nat.eq_of_beq_eq_true hj
    subst this
    rw [hd]; simp
theorem G.put {d : Option Nat} {s : SV S} {v : Value} {k : AS S → Prop} (h : G D cx ν0 ro st f w ν σ ms) (hs : SRep D ν σ v s) (hk : putS ro st d s k) : ∃ st', k st' ∧ st'.objs = st.objs ∧ st'.next = st.next ∧ G D cx ν0 ro st' (putF f d v) w ν σ ms := by
  cases d with
  | none => exact ⟨st, hk, rfl, rfl, h⟩
  | some d =>
    simp only [putS] at hk
    cases hd : hasN ro.lock d with
    | true => rw [hd] at hk; exact hk.elim
    | false =>
      rw [hd, cond_false, forceS_eq] at hk
      refine ⟨_, hk, rfl, rfl, h.mem, h.objs, fun j => ?_, h.fresh, h.ext, h.glob⟩
      rw [slot_put hd]
      show SRep D ν σ (bif Nat.beq j d then v else f j) _
      cases Nat.beq j d with
      | true => exact hs
      | false => exact h.slots j
/-! Objects that are touched. -/
def vfoot : Value → Option Nat
  | .pointer (some a) => some a.block
  | .map (some b) => some b
  | v => v.ownBlock
theorem ORep.foot {o : Nat} {a : AO S} {m : HObj} {lkc : Nat → Nat → SV S} {b : Nat} (h : ORep D ν σ lkc o a m) (hok : m.ok w) (hb : m.foot = some b) : ∃ v, ν o = some v ∧ vfoot v = some b := by
  cases a with
  | cells ty l => obtain ⟨b', cs, h1, rfl, _⟩ := h; cases hb; exact ⟨_, h1, rfl⟩
  | vec e T l =>
    obtain ⟨v, xs, h1, rfl, _⟩ := h
    refine ⟨v, h1, ?_⟩
    obtain ⟨a, cap, rfl⟩ := vec_any hok
    exact hb
  | frz T l => obtain ⟨v, h1, rfl, _⟩ := h; cases hb
  | arr ty T N l => obtain ⟨b', cs, h1, rfl, _⟩ := h; cases hb; exact ⟨_, h1, rfl⟩
  | iter K V F done cur => obtain ⟨r, b', es, clock, cv, h1, rfl, _⟩ := h; cases hb; exact ⟨_, h1, rfl⟩
  | siter s pos => obtain ⟨r, h1, rfl⟩ := h; cases hb; exact ⟨_, h1, rfl⟩
  | map K V F => obtain ⟨b', m, h1, rfl, _⟩ := h; cases hb; exact ⟨_, h1, rfl⟩
def isFrz : AO S → Bool
  | .frz _ _ => true
  | _ => false
theorem ORep.foot' {o : Nat} {a : AO S} {m : HObj} {lkc : Nat → Nat → SV S} {b : Nat} {v : Value} (h : ORep D ν σ lkc o a m) (hok : m.ok w) (ha : isFrz a = false) (hv : ν o = some v) (hb : vfoot v = some b) : m.foot = some b := by
  cases a with
  | cells ty l => obtain ⟨b', cs, h1, rfl, _⟩ := h; rw [hv] at h1; cases h1; exact hb
  | vec e T l =>
    obtain ⟨v', xs, h1, rfl, _⟩ := h
    rw [hv] at h1; cases h1
    obtain ⟨a, cap, rfl⟩ := vec_any hok
    exact hb
  | frz T l => cases ha
  | arr ty T N l => obtain ⟨b', cs, h1, rfl, _⟩ := h; rw [hv] at h1; cases h1; exact hb
  | iter K V F done cur => obtain ⟨r, b', es, clock, cv, h1, rfl, _⟩ := h; rw [hv] at h1; cases h1; exact hb
  | siter s pos => obtain ⟨r, h1, rfl⟩ := h; rw [hv] at h1; cases h1; exact hb
  | map K V F => obtain ⟨b', m, h1, rfl, _⟩ := h; rw [hv] at h1; cases h1; exact hb
theorem findN_del {α : Type} {os : List (Nat × α)} {o o' : Nat} (h : o ≠ o') : findN (delN os o) o' = findN os o' := by
  induction os with
  | nil => rfl
  | cons q os ih =>
    obtain ⟨x, a⟩ := q
    simp only [delN]
    cases hb : Nat.beq x o with
    | true =>
      have := Nat.eq_of_beq_eq_true hb
      subst this
      simp only [cond_true, findN]
      have : Nat.beq x o' = false := by
        cases hq : Nat.beq x o' with
        | false => rfl
        | true => exact absurd (Nat.eq_of_beq_eq_true hq) h
      rw [this]; rfl
    | false =>
      simp only [cond_false, findN, ih]
theorem findN_dels {α : Type} : ∀ {tl : List Nat} {os : List (Nat × α)} {o : Nat}, o ∉ tl → findN (delNs os tl) o = findN os o
  | [], _, _, _ => rfl
  | x :: tl, os, o, h => by
    rw [delNs, findN_dels (fun hm => h (by simp [hm]))]
    exact findN_del (fun he => h (by simp [he]))
theorem delN_append {α : Type} {os os' : List (Nat × α)} {o : Nat} {a : α} (h : findN os o = some a) : delN (os ++ os') o = delN os o ++ os' := by
  induction os with
  | nil => cases h
  | cons q os ih =>
    obtain ⟨x, b⟩ := q
    simp only [findN] at h
    simp only [List.cons_append, delN]
    cases hb : Nat.beq x o with
    | true => rfl
    | false =>
      rw [hb] at h
      simp only [cond_false]
      rw [ih h]; rfl
theorem Objs.takes {lkc : Nat → Nat → SV S} : ∀ {tlo os os' : List (Nat × AO S)} {ms : List HObj}, Objs D ν σ lkc (os ++ os') ms → (tlo.map (·.1)).Nodup → (∀ q ∈ tlo, findN os q.1 = some q.2) →
    ∃ ins rest, ms.Perm (ins ++ rest) ∧ Objs D ν σ lkc tlo ins ∧ Objs D ν σ lkc (delNs os (tlo.map (·.1)) ++ os') rest := by
  intro tlo
  induction tlo with
  | nil => intro os os' ms h _ _; exact ⟨[], ms, .refl _, trivial, h⟩
  | cons q tlo ih =>
    intro os os' ms h hn hq
    obtain ⟨o, a⟩ := q
    have hoa := hq (o, a) (by simp)
    simp only at hoa
    have hf : findN (os ++ os') o = some a := by rw [findN_append, hoa]
    obtain ⟨m, ms', hp, hr, ho⟩ := h.take hf
    rw [delN_append hoa] at ho
    rw [List.map_cons, List.nodup_cons] at hn
    obtain ⟨ins, rest, hp2, h1, h2⟩ := ih ho hn.2 (fun q hq' => by
      rw [findN_del (fun he => hn.1 (by rw [he]; exact List.mem_map.2 ⟨q, hq', rfl⟩))]
      exact hq q (by simp [hq']))
    exact ⟨m :: ins, rest, hp.trans (hp2.cons m), ⟨hr, h1⟩, h2⟩
theorem inRw_find {tl : List Nat} (h : inRw st tl = true) : ∀ o ∈ tl, ∃ a, findN st.objs o = some a := by
  induction tl with
  | nil => simp
  | cons x tl ih =>
    obtain ⟨h1, h2⟩ := and_b h
    intro o ho
    rcases List.mem_cons.1 ho with rfl | ho
    · exact Option.isSome_iff_exists.1 h1
    · exact ih h2 o ho
theorem obS_rw {o : Nat} {a b : AO S} (h : findN st.objs o = some a) (h' : obS ro st o = some b) : findN st.objs o = some b := by
  unfold obS at h'
  rw [h] at h'
  rw [h]; exact h'
/-- What a step leaves alone. -/
def Left (ro : Ro S) (st : AS S) (ν : Nm) (w w' : World) (ban : List Nat → Bool) : Prop :=
  w' = w ∨ ∃ tl, ban tl = true ∧ ∀ b o a v, o ∉ tl → findN (st.objs ++ ro.objs) o = some a → isFrz a = false → ν o = some v → vfoot v = some b → w'.heap[b]? = w.heap[b]?
def StepOk (P : Program) (D : Shp S) (cx : Cx) (ν0 : Nm) (ro : Ro S) (st : AS S) (n : Nat) (o : Oper) (f : Fr) (w : World) (ν : Nm) (σ : Hv) (ban : List Nat → Bool) (k : List Nat → AS S → Prop) : Prop :=
  ∀ (KK : Act → World → Prop) (Q : Exit → Act → World → Prop), (∀ rd st' f' w' ν' σ' ms', k rd st' → G D cx ν0 ro st' f' w' ν' σ' ms' → Ext ν ν' → Sub σ σ' → (∃ v, f' = putF f o.dst v) → Left ro st ν w w' ban → KK (mk n f') w') → o.wp P (mk n f) w KK Q
/-- Objects that are touched come back as others; all else stays. -/
theorem G.turn {tl : List Nat} {tlo : List (Nat × AO S)} (h : G D cx ν0 ro st f w ν σ ms) (ht : tlo.map (·.1) = tl) (hn : tl.Nodup) (hrw : inRw st tl = true) (hob : ∀ q ∈ tlo, obS ro st q.1 = some q.2) :
    ∃ ins, Objs D ν σ ro.cell tlo ins ∧ St ⟨w, σ, feet ins⟩ w σ ins ∧ ∀ {outs : List (Nat × AO S)} {w' : World} {σ' : Hv} {ν' : Nm} {ms' : List HObj} {nx : Nat}, Ext ν ν' → (∀ o, nx ≤ o → ν' o = none) → St ⟨w, σ, feet ins⟩ w' σ' ms' → Objs D ν' σ' ro.cell outs ms' →
      Sub σ σ' ∧ (∃ ms2, G D cx ν0 ro { slots := st.slots, objs := outs ++ delNs st.objs tl, next := nx } f w' ν' σ' ms2) ∧ ∀ b o a v, o ∉ tl → findN (st.objs ++ ro.objs) o = some a → isFrz a = false → ν o = some v → vfoot v = some b → w'.heap[b]? = w.heap[b]? := by
  subst ht
  obtain ⟨ins, rest, hp, h1, h2⟩ := h.objs.takes hn (fun q hq => by
    obtain ⟨a, ha⟩ := inRw_find hrw q.1 (List.mem_map.2 ⟨q, hq, rfl⟩)
    exact obS_rw ha (hob q hq))
  have hS := h.mem.perm hp
  refine ⟨ins, h1, hS.inner, fun {outs w' σ' ν' ms' nx} hext hfr hS' ho' => ?_⟩
  have hsub : Sub σ σ' := hS'.sub
  refine ⟨hsub, ⟨ms' ++ rest, hS.callM hS' rfl, ?_, fun j => (h.slots j).mono hext hsub, hfr, h.ext.trans hext, globMono h.glob hsub⟩, fun b o a v ho hf ha hv hb => ?_⟩
  · rw [List.append_assoc]
    exact ho'.append (h2.mono hext hsub)
  · have hf2 : findN (delNs st.objs (tlo.map (·.1)) ++ ro.objs) o = some a := by
      rw [findN_append, findN_dels ho, ← findN_append]; exact hf
    obtain ⟨m, hm, hr⟩ := h2.find hf2
    have hmo := hS.own m (by simp [hm])
    have hmb := hr.foot' hmo ha hv hb
    refine hS'.keeps.block b (m.lt w b hmo hmb) fun hmem => ?_
    obtain ⟨m', hm', hmb'⟩ := mem_feet.1 hmem
    exact (List.pairwise_append.1 hS.sep).2.2 m' hm' m hm b hmb' hmb
theorem step_eff {o : Oper} {ban : List Nat → Bool} {k : List Nat → AS S → Prop} (hP : D.OkP P) (h : G D cx ν0 ro st f w ν σ ms)
    (hk : effOp P D (evS n ro st) (obS ro st) st.next o.op fun tl outs sv => bif inRw st tl && ban tl then
        (match sv with
        | some s => putS ro { slots := st.slots, objs := outs ++ delNs st.objs tl, next := st.next + 1 } o.dst s (k [])
        | none => bif o.dst.isNone then k [] { slots := st.slots, objs := outs ++ delNs st.objs tl, next := st.next + 1 } else False) else False) :
    StepOk P D cx ν0 ro st n o f w ν σ ban k := by
  intro KK Q hKK
  obtain ⟨oh, kn, _⟩ := h.kn (n := n)
  obtain ⟨tl, outs, sv, tlo, hK, ht, hn, hob, hrun⟩ := eff_ok (f := f) hP (h.fresh _ (Nat.le_refl _)) h.mem.view kn hk
  obtain ⟨hc, hK⟩ := bif_f hK
  obtain ⟨hrw, hban⟩ := and_b hc
  obtain ⟨ins, h1, h2, h3⟩ := h.turn ht hn hrw hob
  obtain ⟨w', σ', ν', ms', x, hr, hext, hnew, hS', ho', hx⟩ := hrun ins h1 h2 o rfl
  have hfr : ∀ m, st.next + 1 ≤ m → ν' m = none := by
    intro m hm
    rcases hq : ν' m with _ | u
    · rfl
    · rcases hnew m u hq with h4 | h4
      · rw [h.fresh m (by omega)] at h4; cases h4
      · omega
  obtain ⟨hsub, ⟨ms2, hG⟩, hleft⟩ := h3 hext hfr hS' ho'
  unfold Oper.wp
  rw [eval_mk, hr]
  cases sv with
  | none =>
    obtain ⟨hd, hK⟩ := bif_f hK
    have hx' : x = .skip := hx
    subst hx'
    show KK ((mk n f).put o.dst undef) w'
    have hd' : o.dst = none := by simpa using hd
    rw [mk_put]
    refine hKK [] _ _ w' ν' σ' ms2 hK ?_ hext hsub ⟨undef, rfl⟩ (.inr ⟨tl, hban, hleft⟩)
    rw [hd']; exact hG
  | some s =>
    obtain ⟨v, rfl, hs⟩ := hx
    show KK ((mk n f).put o.dst v) w'
    rw [mk_put]
    obtain ⟨st', hk', _, _, hG'⟩ := hG.put hs hK
    exact hKK [] st' _ w' ν' σ' ms2 hk' hG' hext hsub ⟨v, rfl⟩ (.inr ⟨tl, hban, hleft⟩)
theorem step_pure {o : Oper} {ban : List Nat → Bool} {k : List Nat → AS S → Prop} (hP : D.OkP P) (h : G D cx ν0 ro st f w ν σ ms)
    (hk : pureOp P D (evS n ro st) (obS ro st) ro.cell o.op fun rd s => putS ro st o.dst s (k rd)) : StepOk P D cx ν0 ro st n o f w ν σ ban k := by
  intro KK Q hKK
  obtain ⟨oh, kn, hms⟩ := h.kn (n := n)
  obtain ⟨rd, s, v, hK, hs, hrun⟩ := pure_ok hP kn hk
  obtain ⟨st', hk', _, _, hG'⟩ := h.put hs hK
  have hr := hrun w o rfl h.mem.view (fun o _ a ha => h.mem.own _ (hms o a ha))
  unfold Oper.wp
  rw [eval_mk, hr]
  show KK ((mk n f).put o.dst v) w
  rw [mk_put]
  exact hKK rd st' _ w ν σ ms hk' hG' (Ext.refl _) (Sub.refl _) ⟨v, rfl⟩ (.inl rfl)
/-! Guards. -/
theorem wanted_bool {ops : Array Oper} {o : Oper} {j d : Nat} {want b : Bool} (hg : o.guard = some (j, want)) (hj : (ops[j]?).bind (·.dst) = some d) (hv : ev n f (.tmp d) = .bool b) : Region.wanted o (yielded ops (mk n f).tmps) = (b == want) := by
  have h2 : (mk n f).tmps.getD d undef = .bool b := res_ev hv
  have h3 : (mk n f).tmps[d]? = some (.bool b) := by
    rw [Array.getD_eq_getD_getElem?] at h2
    cases hx : (mk n f).tmps[d]? with
    | none => rw [hx] at h2; cases h2
    | some x => rw [hx] at h2; exact congrArg some h2
  simp [Region.wanted, hg, yielded, hj, h3]
theorem wanted_und {ops : Array Oper} {o : Oper} {j d : Nat} {want : Bool} (hg : o.guard = some (j, want)) (hj : (ops[j]?).bind (·.dst) = some d) (hv : ev n f (.tmp d) = undef) : Region.wanted o (yielded ops (mk n f).tmps) = false := by
  have h2 : (mk n f).tmps.getD d undef = undef := res_ev hv
  have h3 : (mk n f).tmps[d]? = some undef ∨ (mk n f).tmps[d]? = none := by
    rw [Array.getD_eq_getD_getElem?] at h2
    cases hx : (mk n f).tmps[d]? with
    | none => right; rfl
    | some x => rw [hx] at h2; left; exact congrArg some h2
  rcases h3 with h3 | h3 <;> simp [Region.wanted, hg, yielded, hj, h3, undef]
theorem G.lit {d : Nat} {b : Bool} (h : G D cx ν0 ro st f w ν σ ms) (hv : ev n f (.tmp d) = .bool b) : G D cx ν0 ro { st with slots := updS st.slots d (.lit b) } f w ν σ ms := by
  refine ⟨h.mem, h.objs, fun j => ?_, h.fresh, h.ext, h.glob⟩
  unfold slotS updS
  have := h.slots j
  unfold slotS at this
  cases hl : hasN ro.lock j with
  | true => rw [hl] at this; exact this
  | false =>
    rw [hl] at this
    simp only [cond_false]
    cases hj : Nat.beq j d with
    | false => exact this
    | true =>
      have := Nat.eq_of_beq_eq_true hj
      subst this
      simp only [ev] at hv
      cases hb : Nat.blt j n with
      | true => rw [hb] at hv; simp only [cond_true] at hv; rw [hv]; exact .lit b
      | false => rw [hb] at hv; cases hv
theorem guard_ok {ops : Array Oper} {o : Oper} {yes no : AS S → Prop} (h : G D cx ν0 ro st f w ν σ ms) (hg : guardS n ro ops st o yes no) :
    (Region.wanted o (yielded ops (mk n f).tmps) = true ∧ ∃ st1, yes st1 ∧ st1.objs = st.objs ∧ G D cx ν0 ro st1 f w ν σ ms) ∨ (Region.wanted o (yielded ops (mk n f).tmps) = false ∧ ∃ st1, no st1 ∧ st1.objs = st.objs ∧ G D cx ν0 ro st1 f w ν σ ms) := by
  unfold guardS at hg
  split at hg
  · rename_i hgd
    exact .inl ⟨by simp [Region.wanted, hgd], st, hg, rfl, h⟩
  · rename_i j want hgd
    split at hg
    · exact hg.elim
    · rename_i d hj
      have hd := ev_ok (n := n) h.slots h.glob (.tmp d)
      have two : ∀ (b : Bool), ev n f (.tmp d) = .bool b → (bif b == want then yes { st with slots := updS st.slots d (.lit b) } else no { st with slots := updS st.slots d (.lit b) }) →
          (Region.wanted o (yielded ops (mk n f).tmps) = true ∧ ∃ st1, yes st1 ∧ st1.objs = st.objs ∧ G D cx ν0 ro st1 f w ν σ ms) ∨ (Region.wanted o (yielded ops (mk n f).tmps) = false ∧ ∃ st1, no st1 ∧ st1.objs = st.objs ∧ G D cx ν0 ro st1 f w ν σ ms) := by
        intro b hv hh
        rw [wanted_bool hgd hj hv]
        cases hb : b == want with
        | true => rw [hb] at hh; exact .inl ⟨rfl, _, hh, rfl, h.lit hv⟩
        | false => rw [hb] at hh; exact .inr ⟨rfl, _, hh, rfl, h.lit hv⟩
      generalize hvd : ev n f (.tmp d) = v at hd two
      generalize hsd : evS n ro st (.tmp d) = s at hd hg
      cases hd with
      | lit b =>
        simp only at hg
        rw [wanted_bool hgd hj hvd]
        cases hb : b == want with
        | true => rw [hb] at hg; exact .inl ⟨rfl, st, hg, rfl, h⟩
        | false => rw [hb] at hg; exact .inr ⟨rfl, st, hg, rfl, h⟩
      | und => exact .inr ⟨wanted_und hgd hj hvd, st, hg, rfl, h⟩
      | f hf =>
        cases hf with
        | bool b =>
          refine two b rfl ?_
          cases b with
          | true =>
            have := hg.1 rfl
            cases want <;> exact this
          | false =>
            have := hg.2 (by simp)
            cases want <;> exact this
        | _ => exact hg.elim
      | pb p dp =>
        refine two _ rfl ?_
        by_cases hp : p
        · have := hg.1 hp
          simp only [hp, decide_true]
          cases want <;> exact this
        · have := hg.2 hp
          simp only [hp, decide_false]
          cases want <;> exact this
      | pbn p dp =>
        refine two _ rfl ?_
        by_cases hp : p
        · have := hg.1 hp
          simp only [hp, decide_true, Bool.not_true]
          cases want <;> exact this
        · have := hg.2 hp
          simp only [hp, decide_false, Bool.not_false]
          cases want <;> exact this
      | _ => exact hg.elim
/-- Steps do what they should. -/
def StH (E : Ev S) (inlh : InlH S) (n : Nat) (C : Ro S → Prop) : Prop :=
  ∀ {cx : Cx} {ν0 : Nm} {ro : Ro S} {st : AS S} {f : Fr} {w : World} {ν : Nm} {σ : Hv} {ms : List HObj} {o : Oper} {ban : List Nat → Bool} {k : List Nat → AS S → Prop}, C ro →
    stepS E inlh n ro st ban o k → G E.D cx ν0 ro st f w ν σ ms → StepOk E.P E.D cx ν0 ro st n o f w ν σ ban k
theorem ops_ok {E : Ev S} {inlh : InlH S} {C : Ro S → Prop} (hst : StH E inlh n C) (hro : C ro) {ops : Array Oper} {Q : Exit → Act → World → Prop} {k : AS S → Prop} : ∀ {l : List Oper} {st : AS S} {f : Fr} {w : World} {ν : Nm} {σ : Hv} {ms : List HObj}, opsS E inlh n ro ops l st k → G E.D cx ν0 ro st f w ν σ ms →
    (∀ st' f' w' ν' σ' ms', k st' → G E.D cx ν0 ro st' f' w' ν' σ' ms' → Q .normal (mk n f') w') → wpList E.P ops Q l (mk n f) w := by
  intro l
  induction l with
  | nil => intro st f w ν σ ms h hG hQ; exact hQ _ _ _ _ _ _ h hG
  | cons o l ih =>
    intro st f w ν σ ms h hG hQ
    simp only [opsS] at h
    unfold wpList
    rcases guard_ok hG h with ⟨hw, st1, hy, _, hG1⟩ | ⟨hw, st1, hno, _, hG1⟩
    · rw [if_pos hw]
      exact .inl (hst hro hy hG1 _ _ fun rd st' f' w' ν' σ' ms' hk hG' _ _ _ _ => ih hk hG' hQ)
    · rw [if_neg (by rw [hw]; simp), mk_put]
      obtain ⟨st2, hk, _, _, hG2⟩ := hG1.put (v := undef) .und hno
      exact ih hk hG2 hQ
end Go.Fx
end
section
namespace Go.Fx
open Go Go.RowKit Go.Fl Go.Fl.Lk
variable {S : Sig} {P : Program} {D : Shp S} {ν ν' ν0 : Nm} {σ τ : Hv} {n : Nat} {f : Fr}
variable {w : World} {cx : Cx} {ro : Ro S} {st : AS S} {ms : List HObj} {ops : Array Oper} {Q : Exit → Act → World → Prop}
/-- Some blocks are as they were. -/
def Eqv (R : Nat → Prop) (w w' : World) : Prop := ∀ b, R b → w'.heap[b]? = w.heap[b]?
theorem Eqv.trans {R : Nat → Prop} {a b c : World} (h : Eqv R a b) (k : Eqv R b c) : Eqv R a c := fun x hx => (k x hx).trans (h x hx)
abbrev Prot := List (Nat × (Nat → Prop))
/-- Whatever order comes: what earlier operations read is left alone until one comes that waits for them. -/
def wpK (P : Program) (ops : Array Oper) (Q : Exit → Act → World → Prop) : Nat → Array Bool → Prot → Act → World → Prop
  | 0, listed, _, a, w => Region.ready .any ops listed = [] ∧ Q .normal a w
  | fuel + 1, listed, prot, a, w => (Region.ready .any ops listed = [] → Q .normal a w) ∧
    ∀ j ∈ Region.ready .any ops listed, wpOp P ops Q j (fun a' w' => (∀ q ∈ prot, depD ops j q.1 = false → Eqv q.2 w w') ∧ wpK P ops Q fuel (listed.setIfInBounds j true) (prot.filter fun q => !depD ops j q.1) a' w') a w
theorem wpK_any : ∀ (fuel : Nat) (listed : Array Bool) (prot : Prot) (a : Act) (w : World), wpK P ops Q fuel listed prot a w → wpAny P .any ops Q fuel listed a w
  | 0, _, _, _, _, h => h
  | fuel + 1, _, _, _, _, h => ⟨h.1, fun i hi => wpOp_mono (fun a w hk => wpK_any fuel _ _ a w hk.2) (h.2 i hi)⟩
theorem wpK_drop : ∀ (fuel : Nat) (listed : Array Bool) (prot prot' : Prot) (a : Act) (w : World), (∀ q ∈ prot, q ∈ prot') → wpK P ops Q fuel listed prot' a w → wpK P ops Q fuel listed prot a w
  | 0, _, _, _, _, _, _, h => h
  | fuel + 1, _, prot, prot', _, _, hs, h => ⟨h.1, fun i hi => wpOp_mono (fun a w hk => ⟨fun q hq => hk.1 q (hs q hq), wpK_drop fuel _ _ _ a w (fun q hq => by
      simp only [List.mem_filter] at hq ⊢
      exact ⟨hs q hq.1, hq.2⟩) hk.2⟩) (h.2 i hi)⟩
theorem depQ_no {j i : Nat} {oj : Oper} (hj : ops[j]? = some oj) (h : ∀ e ∈ oj.after, Region.binds .any e = true → e.on ≠ i) : depQ ops j i = false := by
  unfold depQ
  rw [hj]
  simp only [Array.any_eq_false]
  intro k hk
  cases hb : Region.binds .any (oj.after[k]) with
  | false => simp
  | true =>
    cases hq : Nat.beq (oj.after[k]).on i with
    | false => simp
    | true => exact absurd (Nat.eq_of_beq_eq_true hq) (h _ (by simp) hb)
/-- What is listed has all that it waits for listed. -/
def Closed (ops : Array Oper) (l : Array Bool) : Prop := ∀ j oj, ops[j]? = some oj → l.getD j false = true → ∀ e ∈ oj.after, Region.binds .any e = true → l.getD e.on false = true
theorem Closed.set {l : Array Bool} {j : Nat} (hc : Closed ops l) (hr : j ∈ Region.ready .any ops l) : Closed ops (l.setIfInBounds j true) := by
  obtain ⟨_, oj, hoj, hall⟩ := mem_ready.1 hr
  intro k ok hk hl e he hb
  refine getD_set_true ?_
  by_cases hjk : j = k
  · subst hjk
    rw [hoj] at hk; cases hk
    exact hall e he hb
  · rw [getD_set_ne false hjk] at hl
    exact hc k ok hk hl e he hb
theorem closed_zero {m : Nat} : Closed ops (bt m 0) := by
  intro j oj _ hl
  rw [← bt_zero] at hl
  rcases Nat.lt_or_ge j m with h | h
  · simp [h] at hl
  · simp [Array.getElem?_eq_none (show (Array.replicate m false).size ≤ j by simpa using h)] at hl
theorem not_on {l : Array Bool} {i k : Nat} (hi : l.getD i true = false) (hk : l.getD k false = true) : k ≠ i := by
  rintro rfl
  rcases Nat.lt_or_ge k l.size with h' | h'
  · simp [h'] at hi hk; rw [hi] at hk; cases hk
  · simp [Array.getElem?_eq_none h'] at hk
theorem anyN_no {f : Nat → Bool} : ∀ {l : List Nat}, (∀ m ∈ l, f m = false) → anyN f l = false
  | [], _ => rfl
  | m :: l, h => by
    unfold anyN
    rw [h m (by simp)]
    exact anyN_no fun m hm => h m (by simp [hm])
theorem depT_no {l : Array Bool} (hc : Closed ops l) {i : Nat} (hi : l.getD i true = false) : ∀ (k j : Nat), (∀ oj, ops[j]? = some oj → ∀ e ∈ oj.after, Region.binds .any e = true → l.getD e.on false = true) → depT ops k j i = false := by
  intro k
  have base : ∀ j, (∀ oj, ops[j]? = some oj → ∀ e ∈ oj.after, Region.binds .any e = true → l.getD e.on false = true) → depQ ops j i = false := by
    intro j hall
    cases ho : ops[j]? with
    | none => simp [depQ, ho]
    | some oj => exact depQ_no ho fun e he hb => not_on hi (hall oj ho e he hb)
  induction k with
  | zero => exact base
  | succ k ih =>
    intro j hall
    unfold depT
    rw [base j hall]
    refine anyN_no fun m hm => ih m fun om hom e he hb => ?_
    unfold datasQ at hm
    cases ho : ops[j]? with
    | none => rw [ho] at hm; cases hm
    | some oj =>
      rw [ho] at hm
      obtain ⟨e', he', rfl⟩ := List.mem_map.1 hm
      obtain ⟨he', hg⟩ := List.mem_filter.1 he'
      refine hc _ om hom (hall oj ho e' (Array.mem_toList_iff.1 he') ?_) e he hb
      unfold Region.binds
      split at hg
      · rename_i hgd; rw [hgd]
      · cases hg
theorem wpK_first {R : Nat → Prop} {w0 : World} {i : Nat} {oi : Oper} {v : Value} (hi : ops[i]? = some oi) (hsel : ∀ (j : Nat) (o : Oper) cs b, ops[j]? = some o → o.op ≠ .select cs b) (hQ : ∀ c a w, ¬ Q (.panic c) a w) :
    ∀ (fuel : Nat) (listed : Array Bool) (prot : Prot) (a : Act) (w : World), Closed ops listed → Eqv R w0 w →
      (∀ j oj, ops[j]? = some oj → j ≠ i → listed.getD j true = false → (∀ e ∈ oj.after, Region.binds .any e = true → e.on ≠ i) → oi.apart ops oj = true) →
      i ∈ Region.ready .any ops listed → Still P ops (Eqv R w0) i oi v a → wpK P ops Q fuel (listed.setIfInBounds i true) ((i, R) :: prot) (a.put oi.dst v) w → wpK P ops Q (fuel + 1) listed prot a w := by
  have same : ∀ (fuel : Nat) (listed : Array Bool) (prot : Prot) (a : Act) (w : World), Eqv R w0 w → Still P ops (Eqv R w0) i oi v a → wpK P ops Q fuel (listed.setIfInBounds i true) ((i, R) :: prot) (a.put oi.dst v) w →
      wpOp P ops Q i (fun a' w' => (∀ q ∈ prot, depD ops i q.1 = false → Eqv q.2 w w') ∧ wpK P ops Q fuel (listed.setIfInBounds i true) (prot.filter fun q => !depD ops i q.1) a' w') a w := by
    intro fuel listed prot a w hJ hy H
    refine wpOp_q (hy w hJ _ ⟨fun q _ _ b _ => rfl, wpK_drop _ _ _ _ _ _ (fun q hq => ?_) H⟩)
    exact List.mem_cons_of_mem _ (List.mem_filter.1 hq).1
  intro fuel
  induction fuel with
  | zero =>
    intro listed prot a w _ hJ _ hr hy H
    refine ⟨fun h => (by rw [h] at hr; cases hr), fun j hj => ?_⟩
    by_cases hji : j = i
    · subst hji; exact same 0 listed prot a w hJ hy H
    · have := ready_mono hj hji
      rw [H.1] at this
      cases this
  | succ fuel ih =>
    intro listed prot a w hcl hJ hfree hr hy H
    refine ⟨fun h => (by rw [h] at hr; cases hr), fun j hj => ?_⟩
    by_cases hji : j = i
    · subst hji; exact same (fuel + 1) listed prot a w hJ hy H
    · have h1 := H.2 j (ready_mono hj hji)
      obtain ⟨hjun, oj, hoj, hall⟩ := mem_ready.1 hj
      have hnot : ∀ e ∈ oj.after, Region.binds .any e = true → e.on ≠ i := fun e he hb heq => by
        have h1 := hall e he hb
        have h0 := (mem_ready.1 hr).1
        rw [heq] at h1
        rcases Nat.lt_or_ge i listed.size with h' | h'
        · simp [h'] at h0 h1; rw [h0] at h1; cases h1
        · simp [Array.getElem?_eq_none h'] at h1
      have hdep : depD ops j i = false := depT_no hcl (mem_ready.1 hr).1 _ j fun o ho => by rw [hoj] at ho; cases ho; exact hall
      have h2 := opJ_put hi hoj (hfree j oj hoj hji hjun hnot) (fun cs b => hsel i oi cs b hi) (fun cs b => hsel j oj cs b hoj) (fun c a w h => absurd h (hQ _ _ _)) hy h1
      have hfree' : ∀ k ok, ops[k]? = some ok → k ≠ i → (listed.setIfInBounds j true).getD k true = false →
          (∀ e ∈ ok.after, Region.binds .any e = true → e.on ≠ i) → oi.apart ops ok = true := fun k ok hk hki hun hno => by
        refine hfree k ok hk hki ?_ hno
        by_cases hjk : j = k
        · subst hjk; exact hjun
        · rw [getD_set_ne true hjk] at hun; exact hun
      refine wpOp_mono (fun a' w' h3 => ?_) h2
      obtain ⟨hst, hpr, hwp⟩ := h3
      refine ⟨fun q hq hd => hpr q (List.mem_cons_of_mem _ hq) hd, ih (listed.setIfInBounds j true) _ a' w' (hcl.set hj) (hJ.trans (hpr (i, R) (by simp) hdep)) hfree' (ready_mono hr (Ne.symm hji)) hst ?_⟩
      rw [Array.setIfInBounds_comm _ _ hji]
      rw [List.filter_cons_of_pos (by simp [hdep])] at hwp
      exact hwp
/-! The walk through such a region. -/
theorem firstQ_ok {m mask : Nat} {isP : Oper → Bool} : ∀ {rs : List Nat} {i : Nat}, firstQ ops m mask isP rs = some i → i ∈ rs ∧ ∃ o, ops[i]? = some o ∧ isP o = true ∧ o.dst.isSome = true ∧ Region.free .any ops (bt m mask) i = true
  | [], _, h => by cases h
  | x :: rs, i, h => by
    simp only [firstQ] at h
    split at h
    case h_2 => cases h
    rename_i o ho
    cases hc : (isP o && o.dst.isSome && Region.free .any ops (bt m mask) x) with
    | true =>
      rw [hc] at h; cases h
      obtain ⟨hc, h3⟩ := and_b hc
      obtain ⟨h1, h2⟩ := and_b hc
      exact ⟨by simp, o, ho, h1, h2, h3⟩
    | false =>
      rw [hc] at h
      obtain ⟨h1, h2⟩ := firstQ_ok h
      exact ⟨by simp [h1], h2⟩
theorem allR_all {g : Nat → Prop} : ∀ {l : List Nat}, allR g l → ∀ i ∈ l, g i
  | [], _, i, hi => by cases hi
  | [x], h, i, hi => by simp at hi; subst hi; exact h
  | x :: y :: l, h, i, hi => by
    rcases List.mem_cons.1 hi with rfl | hi
    · exact h.1
    · exact allR_all (l := y :: l) h.2 i hi
/-- What an operation that was taken early reads. -/
def PR (ν : Nm) (σ : Hv) (w : World) (a : Nat × List Nat) (q : Nat × (Nat → Prop)) : Prop :=
  q.1 = a.1 ∧ ∀ b, q.2 b → b < w.heap.size ∧ (σ b ≠ none ∨ ∃ o ∈ a.2, ∃ v, ν o = some v ∧ vfoot v = some b)
def PRs (ν : Nm) (σ : Hv) (w : World) (l : List (Nat × List Nat)) (l' : Prot) : Prop := ∀ q ∈ l', ∃ a ∈ l, PR ν σ w a q
theorem PRs.mono {l : List (Nat × List Nat)} {l' : Prot} {w' : World} (h : PRs ν σ w l l') (hn : Ext ν ν') (hs : Sub σ τ) (hw : w.heap.size ≤ w'.heap.size) : PRs ν' τ w' l l' := fun q hq => by
  obtain ⟨a, ha, h1, h2⟩ := h q hq
  refine ⟨a, ha, h1, fun b hb => ⟨Nat.lt_of_lt_of_le (h2 b hb).1 hw, (h2 b hb).2.imp (fun h1 h2 => ?_) fun ⟨o, ho, v, hv, hf⟩ => ⟨o, ho, v, hn _ _ hv, hf⟩⟩⟩
  cases hq : σ b with
  | none => exact h1 hq
  | some x => rw [hs b x hq] at h2; cases h2
theorem PRs.filter {j : Nat} {l : List (Nat × List Nat)} {l' : Prot} (h : PRs ν σ w l l') : PRs ν σ w (prune ops j l) (l'.filter fun q => !depD ops j q.1) := fun q hq => by
  obtain ⟨hq, hd⟩ := List.mem_filter.1 hq
  obtain ⟨a, ha, hp⟩ := h q hq
  exact ⟨a, List.mem_filter.2 ⟨ha, by rw [← hp.1]; exact hd⟩, hp⟩
theorem PRs.sub {l : List (Nat × List Nat)} {l' l'' : Prot} (h : PRs ν σ w l l') (hs : ∀ q ∈ l'', q ∈ l') : PRs ν σ w l l'' := fun q hq => h q (hs q hq)
/-! New variables, made early or late. -/
theorem alloc_inv {t : TypeId} {e : Operand → SV S} {ob : Nat → Option (AO S)} {nx : Nat} {K : List Nat → List (Nat × AO S) → Option (SV S) → Prop} (h : effOp P D e ob nx (.alloc t) K) :
    ∃ a, zAO P D t = some a ∧ K [] [(nx, a)] (some (.ref nx 0)) := by
  simp only [effOp] at h
  unfold zAO
  split at h
  · rename_i T N ha
    rw [ha]
    exact ⟨_, rfl, h⟩
  · rename_i ha
    rw [ha]
    split at h
    case h_2 => exact h.elim
    rename_i z hz
    rw [hz]
    obtain ⟨hz1, h⟩ := bif_f h
    exact ⟨_, by simp only [hz1, cond_true], h⟩
theorem alloc_run {t : TypeId} {a : AO S} (hP : D.OkP P) (hz : zAO P D t = some a) : ∃ (cs : Array Value), (∀ (r : Operand → Value) (oo : Oper) (w : World), oo.op = .alloc t → (execOp r oo).run P w = .ok (.value (.pointer (some ⟨w.heap.size, 0, none⟩))) (w.alloc (.cells cs t))) ∧
    ∀ (ν : Nm) (σ : Hv) (nx b : Nat) (lkc : Nat → Nat → SV S), ν nx = some (.pointer (some ⟨b, 0, none⟩)) → ORep D ν σ lkc nx a (blk b t cs.toList) := by
  unfold zAO at hz
  split at hz
  · rename_i T N ha
    cases hz
    obtain ⟨cs, hz, hE⟩ := hP.arr _ _ _ ha
    exact ⟨cs.toArray, fun r oo w hoo => by simp [execOp, hoo, Instr.alloc, hz, newVar, newRow, newObj, Sem.run]; try rfl, fun ν σ nx b lkc hn => ⟨_, _, hn, by simp, hE σ, by simp⟩⟩
  · split at hz
    case h_2 => cases hz
    rename_i z hzi
    cases hz1 : z.cells.toList.all isZ with
    | false => rw [hz1] at hz; cases hz
    | true =>
      rw [hz1] at hz; cases hz
      have hzr : ∀ w, (zeroValue t).run P w = .ok z w := by
        intro w
        obtain ⟨i, hi, hz⟩ := Option.bind_eq_some_iff.1 hzi
        simp [zeroValue, typeInfo, hi, hz]
      refine ⟨z.cells, fun r oo w hoo => by simp [execOp, hoo, Instr.alloc, hzr, newVar, newRow, newObj, Sem.run]; try rfl, fun ν σ nx b lkc hn => ⟨_, _, hn, rfl, ?_⟩⟩
      have hr := zero_row (D := D) (ν := ν) (σ := σ) hz1
      rw [resL_id hr]; exact hr
/-- The laws of the late ones. -/
structure LateOk (P : Program) (D : Shp S) (ro : Ro S) (ops : Array Oper) (i : Nat) (o : Oper) (t d : Nat) : Prop where
  z : ∃ a, zAO P D t = some a
  at_ : ops[i]? = some o
  op : o.op = .alloc t
  dst : o.dst = some d
  lock : hasN ro.lock d = false
  guard : o.guard = none
  after : o.after.toList = []
  only : ∀ j oj, ops[j]? = some oj → oj.dst = some d → j = i
theorem isLate_ok {i : Nat} (h : isLate P D ro ops i = true) : ∃ o t d, LateOk P D ro ops i o t d := by
  unfold isLate at h
  split at h
  case h_2 => cases h
  rename_i o ho
  split at h
  case h_2 => cases h
  rename_i t d hop hd
  obtain ⟨h, h4⟩ := and_b h
  obtain ⟨h, h3⟩ := and_b h
  obtain ⟨h, h2⟩ := and_b h
  obtain ⟨h0, h1⟩ := and_b h
  refine ⟨o, t, d, Option.isSome_iff_exists.1 h0, ho, hop, hd, by simpa using h1, by simpa using h2, List.isEmpty_iff.1 h3, fun j oj hj hdj => ?_⟩
  have hlt : j < ops.size := by
    rcases Nat.lt_or_ge j ops.size with h' | h'
    · exact h'
    · rw [Array.getElem?_eq_none h'] at hj; cases hj
  have := List.all_eq_true.1 h4 j (List.mem_range.2 hlt)
  rw [hj] at this
  simp only [Option.bind_some, hdj] at this
  rcases Bool.or_eq_true_iff.1 this with e | e
  · exact Nat.eq_of_beq_eq_true e
  · simp at e
def Lts (P : Program) (D : Shp S) (ro : Ro S) (ops : Array Oper) (L : List Nat) : Prop := ∀ i ∈ L, ∃ o t d, LateOk P D ro ops i o t d
theorem hasN_iff {l : List Nat} {x : Nat} : hasN l x = true ↔ x ∈ l := by
  induction l with
  | nil => simp [hasN]
  | cons a l ih =>
    unfold hasN
    cases h : Nat.beq a x with
    | true => simp [Nat.eq_of_beq_eq_true h]
    | false =>
      rw [cond_false, ih, List.mem_cons]
      refine ⟨.inr, fun h' => h'.resolve_left fun e => ?_⟩
      subst e
      simp at h
theorem deadL_spec {L : List Nat} : ∀ {st : AS S}, (deadL ops L st).objs = st.objs ∧ (deadL ops L st).next = st.next ∧ ∀ j, (deadL ops L st).slots j = st.slots j ∨ (deadL ops L st).slots j = .dead := by
  induction L with
  | nil => exact ⟨rfl, rfl, fun _ => .inl rfl⟩
  | cons i L ih =>
    intro st
    unfold deadL
    split
    · rename_i d _
      split
      · exact ih
      · obtain ⟨h1, h2, h3⟩ := ih (st := { st with slots := updS st.slots d .dead })
        refine ⟨h1, h2, fun j => ?_⟩
        rcases h3 j with e | e
        · rw [e]
          show (bif Nat.beq j d then SV.dead else st.slots j) = st.slots j ∨ (bif Nat.beq j d then SV.dead else st.slots j) = .dead
          cases Nat.beq j d with
          | true => exact .inr rfl
          | false => exact .inl rfl
        · exact .inr e
    · exact ih
theorem deadL_at {L : List Nat} : ∀ {st : AS S} {i : Nat} {o : Oper} {d : Nat}, i ∈ L → ops[i]? = some o → o.dst = some d → (deadL ops L st).slots d = .dead := by
  induction L with
  | nil => intro st i o d hi; cases hi
  | cons x L ih =>
    intro st i o d hi ho hd
    rcases List.mem_cons.1 hi with rfl | hi
    · unfold deadL
      rw [ho]
      simp only [Option.bind_some, hd]
      split
      · rename_i hdead
        rcases (deadL_spec (ops := ops) (L := L) (st := st)).2.2 d with e | e
        · rw [e]; exact hdead
        · exact e
      · rcases (deadL_spec (ops := ops) (L := L) (st := { st with slots := updS st.slots d .dead })).2.2 d with e | e
        · rw [e]; simp [updS]
        · exact e
    · unfold deadL
      split
      · split
        · exact ih hi ho hd
        · exact ih hi ho hd
      · exact ih hi ho hd
theorem G.dead {L : List Nat} (h : G D cx ν0 ro st f w ν σ ms) : G D cx ν0 ro (deadL ops L st) f w ν σ ms := by
  obtain ⟨h1, h2, h3⟩ := deadL_spec (ops := ops) (L := L) (st := st)
  refine ⟨h.mem, by rw [h1]; exact h.objs, fun j => ?_, by rw [h2]; exact h.fresh, h.ext, h.glob⟩
  have := h.slots j
  unfold slotS at this ⊢
  cases hl : hasN ro.lock j with
  | true => rw [hl] at this; exact this
  | false =>
    rw [hl] at this
    simp only [cond_false] at this ⊢
    rcases h3 j with e | e
    · rw [e]; exact this
    · rw [e]; exact .dead _
/-! What is listed. -/
theorem bt_get {m k j : Nat} : (bt m k).getD j false = true ↔ j < m ∧ k.testBit j = true := by
  rcases Nat.lt_or_ge j m with h | h
  · simp [bt, h]
  · simp [bt, show ¬ j < m by omega]
theorem bt_or {m mask i j : Nat} : (bt m (mask ||| 1 <<< i)).getD j false = true ↔ (bt m mask).getD j false = true ∨ (j < m ∧ j = i) := by
  have hb : (1 <<< i).testBit j = true ↔ i = j := by rw [Nat.one_shiftLeft]; simp [Nat.testBit_two_pow]
  rw [bt_get, bt_get, Nat.testBit_or, Bool.or_eq_true, hb]
  constructor
  · rintro ⟨h, e | e⟩
    · exact .inl ⟨h, e⟩
    · exact .inr ⟨h, e.symm⟩
  · rintro (⟨h, e⟩ | ⟨h, e⟩)
    · exact ⟨h, .inl e⟩
    · exact ⟨h, .inr e.symm⟩
theorem orL_get {m : Nat} {L : List Nat} : ∀ {mask j : Nat}, (bt m (orL mask L)).getD j false = true ↔ (bt m mask).getD j false = true ∨ (j < m ∧ j ∈ L) := by
  induction L with
  | nil => intro mask j; simp [orL]
  | cons i L ih =>
    intro mask j
    rw [orL, ih, bt_or, List.mem_cons]
    constructor
    · rintro ((h | ⟨h, e⟩) | ⟨h, e⟩)
      · exact .inl h
      · exact .inr ⟨h, .inl e⟩
      · exact .inr ⟨h, .inr e⟩
    · rintro (h | ⟨h, e | e⟩)
      · exact .inl (.inl h)
      · exact .inl (.inr ⟨h, e⟩)
      · exact .inr ⟨h, e⟩
theorem un_iff {l : Array Bool} {j : Nat} : l.getD j true = false ↔ j < l.size ∧ ¬ l.getD j false = true := by
  rcases Nat.lt_or_ge j l.size with h | h
  · simp [h]
  · simp [Array.getElem?_eq_none h]; omega
/-- How many are left. -/
def unl (l : Array Bool) : Nat := (List.range l.size).countP fun j => !l.getD j false
theorem count_lt {p q : Nat → Bool} {j : Nat} : ∀ {l : List Nat}, (∀ x, p x = true → q x = true) → j ∈ l → q j = true → p j = false → l.countP p < l.countP q
  | [], _, h, _, _ => by cases h
  | a :: l, hpq, h, h1, h2 => by
    have hle : l.countP p ≤ l.countP q := List.countP_mono_left fun x _ hx => hpq x hx
    by_cases ha : a = j
    · subst ha
      rw [List.countP_cons_of_neg (by simp [h2]), List.countP_cons_of_pos h1]; omega
    · have := count_lt (l := l) hpq ((List.mem_cons.1 h).resolve_left fun e => ha e.symm) h1 h2
      by_cases hp : p a = true
      · rw [List.countP_cons_of_pos hp, List.countP_cons_of_pos (hpq a hp)]; omega
      · rw [List.countP_cons_of_neg hp]
        by_cases hq : q a = true
        · rw [List.countP_cons_of_pos hq]; omega
        · rw [List.countP_cons_of_neg hq]; exact this
theorem unl_set {l : Array Bool} {j : Nat} (h : l.getD j true = false) : unl (l.setIfInBounds j true) < unl l := by
  obtain ⟨h1, h2⟩ := un_iff.1 h
  unfold unl
  rw [Array.size_setIfInBounds]
  refine count_lt (j := j) (fun x hx => ?_) (List.mem_range.2 h1) (by simpa using h2) ?_
  · cases hq : l.getD x false with
    | false => rfl
    | true => rw [getD_set_true hq] at hx; cases hx
  · simp [h1]
/-- How what is listed stands to the plain state's own list: late ones may have come. -/
structure Lst (m mask : Nat) (L : List Nat) (pend : List Nat) (lc : Array Bool) : Prop where
  size : lc.size = m
  at_ : ∀ j, lc.getD j false = true ↔ (bt m mask).getD j false = true ∨ j ∈ pend
  sub : ∀ i ∈ pend, i ∈ L
  not : ∀ i ∈ L, i < m ∧ ¬ (bt m mask).getD i false = true
  one : L.Nodup
  pone : pend.Nodup
variable {m mask fuel : Nat} {L pend : List Nat} {lc : Array Bool}
theorem Lst.un (h : Lst m mask L pend lc) {j : Nat} : lc.getD j true = false ↔ (bt m mask).getD j true = false ∧ j ∉ pend := by
  rw [un_iff, un_iff, h.size, show (bt m mask).size = m by simp [bt], h.at_]
  constructor
  · rintro ⟨a, b⟩
    exact ⟨⟨a, fun c => b (.inl c)⟩, fun c => b (.inr c)⟩
  · rintro ⟨⟨a, b⟩, c⟩
    exact ⟨a, fun d => d.elim b c⟩
/-- What is ready in the plain state's list is ready. -/
theorem Lst.up (h : Lst m mask L pend lc) {j : Nat} (hj : j ∈ Region.ready .any ops (bt m mask)) (hn : j ∉ L) : j ∈ Region.ready .any ops lc := by
  obtain ⟨h1, o, ho, hall⟩ := mem_ready.1 hj
  exact mem_ready.2 ⟨h.un.2 ⟨h1, fun hp => hn (h.sub j hp)⟩, o, ho, fun e he hb => (h.at_ _).2 (.inl (hall e he hb))⟩
/-- What is ready is so as soon as the late ones have come. -/
theorem Lst.down (h : Lst m mask L pend lc) {j : Nat} {L' : List Nat} (hj : j ∈ Region.ready .any ops lc) (hn : j ∉ L') (hs : ∀ i ∈ pend, i ∈ L') : j ∈ Region.ready .any ops (bt m (orL mask L')) := by
  obtain ⟨h1, o, ho, hall⟩ := mem_ready.1 hj
  obtain ⟨h2, h3⟩ := h.un.1 h1
  obtain ⟨h4, h5⟩ := un_iff.1 h2
  have h4 : j < m := by simpa [bt] using h4
  refine mem_ready.2 ⟨un_iff.2 ⟨by simpa [bt] using h4, fun hx => ?_⟩, o, ho, fun e he hb => orL_get.2 ?_⟩
  · rcases orL_get.1 hx with hx | hx
    · exact h5 hx
    · exact hn hx.2
  · rcases (h.at_ _).1 (hall e he hb) with hx | hx
    · exact .inl hx
    · exact .inr ⟨(h.not _ (h.sub _ hx)).1, hs _ hx⟩
theorem Lst.same (h : Lst m mask L pend lc) (hp : pend = []) {j : Nat} (hj : j ∈ Region.ready .any ops lc) : j ∈ Region.ready .any ops (bt m mask) := by
  have := h.down (L' := []) hj (by simp) (by simp [hp])
  exact this
theorem Lst.set (h : Lst m mask L pend lc) {j : Nat} (hj : j < m) (hn : j ∉ L) : Lst m (mask ||| 1 <<< j) L pend (lc.setIfInBounds j true) := by
  refine ⟨by simp [h.size], fun x => ?_, h.sub, fun i hi => ⟨(h.not i hi).1, fun hx => ?_⟩, h.one, h.pone⟩
  · rw [bt_or]
    by_cases hx : j = x
    · subst hx
      simp [h.size, hj]
    · rw [getD_set_ne false hx, h.at_]
      constructor
      · rintro (a | a)
        · exact .inl (.inl a)
        · exact .inr a
      · rintro ((a | ⟨_, a⟩) | a)
        · exact .inl a
        · exact absurd a.symm hx
        · exact .inr a
  · rcases bt_or.1 hx with a | ⟨_, a⟩
    · exact (h.not i hi).2 a
    · exact hn (a ▸ hi)
theorem Lst.early (h : Lst m mask L pend lc) {j : Nat} (hj : j ∈ L) (hn : j ∉ pend) : Lst m mask L (j :: pend) (lc.setIfInBounds j true) := by
  have hm := (h.not j hj).1
  refine ⟨by simp [h.size], fun x => ?_, fun i hi => ?_, h.not, h.one, List.nodup_cons.2 ⟨hn, h.pone⟩⟩
  · by_cases hx : j = x
    · subst hx
      simp [h.size, hm]
    · rw [getD_set_ne false hx, h.at_, List.mem_cons]
      constructor
      · rintro (a | a)
        · exact .inl a
        · exact .inr (.inr a)
      · rintro (a | a | a)
        · exact .inl a
        · exact absurd a.symm hx
        · exact .inr a
  · rcases List.mem_cons.1 hi with rfl | hi
    · exact hj
    · exact h.sub i hi
theorem Lst.name {i : Nat} (h : Lst m mask (i :: L) pend lc) {pend' : List Nat} (hp : pend.Perm (i :: pend')) : Lst m (mask ||| 1 <<< i) L pend' lc := by
  have hn := List.nodup_cons.1 h.one
  have hpn := List.nodup_cons.1 (hp.nodup_iff.1 h.pone)
  refine ⟨h.size, fun x => ?_, fun x hx => ?_, fun x hx => ⟨(h.not x (by simp [hx])).1, fun hb => ?_⟩, hn.2, hpn.2⟩
  · rw [h.at_, bt_or, hp.mem_iff, List.mem_cons]
    have hm := (h.not i (by simp)).1
    constructor
    · rintro (a | rfl | a)
      · exact .inl (.inl a)
      · exact .inl (.inr ⟨hm, rfl⟩)
      · exact .inr a
    · rintro ((a | ⟨_, a⟩) | a)
      · exact .inl a
      · exact .inr (.inl a)
      · exact .inr (.inr a)
  · have := h.sub x (hp.mem_iff.2 (by simp [hx]))
    exact (List.mem_cons.1 this).resolve_left fun e => hpn.1 (e ▸ hx)
  · rcases bt_or.1 hb with a | ⟨_, a⟩
    · exact (h.not x (by simp [hx])).2 a
    · exact hn.1 (a ▸ hx)
theorem beq_no {a b : Nat} (h : a ≠ b) : Nat.beq a b = false := by
  cases hq : Nat.beq a b with
  | false => rfl
  | true => exact absurd (Nat.eq_of_beq_eq_true hq) h
/-- A late variable that has come: it has no name yet. -/
def Pnd (P : Program) (D : Shp S) (ro : Ro S) (ops : Array Oper) (f : Fr) (q : Nat × HObj) : Prop :=
  ∃ o t d b a, LateOk P D ro ops q.1 o t d ∧ f d = .pointer (some ⟨b, 0, none⟩) ∧ zAO P D t = some a ∧
    ∀ (ν : Nm) (σ : Hv) (nx : Nat) (lkc : Nat → Nat → SV S), ν nx = some (.pointer (some ⟨b, 0, none⟩)) → ORep D ν σ lkc nx a q.2
theorem Pnd.put {q : Nat × HObj} (h : Pnd P D ro ops f q) {j : Nat} {o : Oper} {v : Value} (ho : ops[j]? = some o) (hj : j ≠ q.1) : Pnd P D ro ops (putF f o.dst v) q := by
  obtain ⟨o', t, d, b, a, hl, hf, h⟩ := h
  refine ⟨o', t, d, b, a, hl, ?_, h⟩
  unfold putF
  cases hd : o.dst with
  | none => exact hf
  | some d' =>
    have hne : d ≠ d' := fun e => hj (hl.only j o ho (by rw [hd, e]))
    show (bif Nat.beq d d' then v else f d) = _
    rw [beq_no hne]
    exact hf
/-- A plain state, and late variables that have come. -/
structure Gp (P : Program) (D : Shp S) (cx : Cx) (ν0 : Nm) (ro : Ro S) (ops : Array Oper) (st : AS S) (f : Fr) (w : World) (ν : Nm) (σ : Hv) (ms : List HObj) (pl : List (Nat × HObj)) : Prop where
  g : G D ⟨w, σ, feet ms⟩ ν0 ro st f w ν σ ms
  mem : St cx w σ (ms ++ pl.map (·.2))
  pnd : ∀ q ∈ pl, Pnd P D ro ops f q
theorem wpK_end {fuel : Nat} {a : Act} {prot : Prot} (h : Region.ready .any ops lc = []) (hq : Q .normal a w) : wpK P ops Q fuel lc prot a w := by
  cases fuel with
  | zero => exact ⟨h, hq⟩
  | succ n => exact ⟨fun _ => hq, fun j hj => by rw [h] at hj; cases hj⟩
theorem putF_same {o : Oper} {d : Nat} (hd : o.dst = some d) : putF f o.dst (f d) = f := by
  rw [hd]
  funext j
  show (bif Nat.beq j d then f d else f j) = f j
  cases h : Nat.beq j d with
  | true => rw [Nat.eq_of_beq_eq_true h]; rfl
  | false => rfl
theorem draw_go {E : Ev S} {inlh : InlH S} {C : Ro S → Prop} (hP : E.D.OkP E.P) (hst : StH E inlh n C) (hro : C ro) (hsel : Region.noSelect ops = true) (hQ : ∀ c a w, ¬ Q (.panic c) a w) {m : Nat} {k : AS S → Prop} :
    ∀ {N fuel fuelc mask : Nat} {L : List Nat} {pa : List (Nat × List Nat)} {prot : Prot} {st : AS S} {f : Fr} {w : World} {ν : Nm} {σ : Hv} {ms : List HObj} {pl : List (Nat × HObj)} {lc : Array Bool}, fuel + fuelc ≤ N → unl lc ≤ fuelc → Closed ops lc →
    Lst m mask L (pl.map (·.1)) lc → Lts E.P E.D ro ops L → (∀ i ∈ L, ∀ o d, ops[i]? = some o → o.dst = some d → st.slots d = .dead) → drawS E inlh n ro ops m k fuel L mask pa st → Gp E.P E.D cx ν0 ro ops st f w ν σ ms pl → PRs ν σ w pa prot →
    (∀ st' f' w' ν' σ' ms', k st' → G E.D cx ν0 ro st' f' w' ν' σ' ms' → Q .normal (mk n f') w') → wpK E.P ops Q fuelc lc prot (mk n f) w := by
  intro N
  induction N with
  | zero =>
    intro fuel fuelc mask L pa prot st f w ν σ ms pl lc hN hun hcl hls hL hdead h hG hpr hk
    have hz : fuel = 0 := by omega
    subst hz
    simp only [drawS] at h
    obtain ⟨h1, h2⟩ := bif_f h
    obtain ⟨h1, h3⟩ := and_b h1
    have hLe := List.isEmpty_iff.1 h1
    have hple : pl = [] := by
      cases pl with
      | nil => rfl
      | cons q pl => have := hls.sub q.1 (by simp); rw [hLe] at this; cases this
    subst hple
    refine wpK_end (List.eq_nil_iff_forall_not_mem.2 fun j hj => ?_) (hk _ _ _ _ _ _ h2 ⟨by simpa using hG.mem, hG.g.objs, hG.g.slots, hG.g.fresh, hG.g.ext, hG.g.glob⟩)
    have := hls.same rfl hj
    rw [List.isEmpty_iff.1 h3] at this
    cases this
  | succ N ih =>
    intro fuel fuelc mask L pa prot st f w ν σ ms pl lc hN hun hcl hls hL hdead h hG hpr hk
    have hGcx : pl = [] → G E.D cx ν0 ro st f w ν σ ms := fun e => by
      subst e
      exact ⟨by simpa using hG.mem, hG.g.objs, hG.g.slots, hG.g.fresh, hG.g.ext, hG.g.glob⟩
    have hplL : L = [] → pl = [] := fun e => by
      cases pl with
      | nil => rfl
      | cons q pl => have := hls.sub q.1 (by simp); rw [e] at this; cases this
    -- a late one comes early
    have early : ∀ {c : Nat}, fuelc = c + 1 → ∀ j ∈ Region.ready .any ops lc, j ∈ L →
        wpOp E.P ops Q j (fun a' w' => (∀ q ∈ prot, depD ops j q.1 = false → Eqv q.2 w w') ∧ wpK E.P ops Q c (lc.setIfInBounds j true) (prot.filter fun q => !depD ops j q.1) a' w') (mk n f) w := by
      intro c hc j hj hjL
      obtain ⟨hjun, _⟩ := mem_ready.1 hj
      have hjp : j ∉ pl.map (·.1) := (hls.un.1 hjun).2
      obtain ⟨o, t, d, hlt⟩ := hL j hjL
      have hs := hdead j hjL o d hlt.at_ hlt.dst
      obtain ⟨a, hz⟩ := hlt.z
      obtain ⟨cs, hrun, hrep⟩ := alloc_run hP hz
      unfold wpOp
      simp only [hlt.at_]
      have hw : Region.wanted o (yielded ops (mk n f).tmps) = true := by simp [Region.wanted, hlt.guard]
      rw [if_pos hw]
      left
      unfold Oper.wp
      rw [eval_mk, hrun _ o w hlt.op]
      have hput : (mk n f).put o.dst (.pointer (some ⟨w.heap.size, 0, none⟩)) = mk n (putF f o.dst (.pointer (some ⟨w.heap.size, 0, none⟩))) := mk_put _ _
      show (∀ q ∈ prot, depD ops j q.1 = false → Eqv q.2 w (w.alloc (.cells cs t))) ∧ wpK E.P ops Q c (lc.setIfInBounds j true) (prot.filter fun q => !depD ops j q.1) ((mk n f).put o.dst _) (w.alloc (.cells cs t))
      have hkp : Keeps [] w (w.alloc (.cells cs t)) := alloc_keeps w _
      refine ⟨fun q hq _ b hb => ?_, ?_⟩
      · obtain ⟨a', _, _, h2⟩ := hpr q hq
        exact hkp.block b (h2 b hb).1 (by simp)
      · rw [hput]
        have hmem : St cx (w.alloc (.cells cs t)) σ (ms ++ ((j, blk w.heap.size t cs.toList) :: pl).map (·.2)) :=
          (new_block hG.mem t cs).perm (by simpa using List.perm_middle.symm)
        refine ih (fuel := fuel) (fuelc := c) (by omega) (by have := unl_set hjun; omega) (hcl.set hj) (pl := (j, blk w.heap.size t cs.toList) :: pl) (hls.early hjL hjp) hL hdead h
          ⟨⟨hmem.inner, hG.g.objs, fun x => ?_, hG.g.fresh, hG.g.ext, hG.g.glob⟩, hmem, fun q hq => ?_⟩ ((hpr.mono (Ext.refl _) (Sub.refl _) hkp.size).sub fun q hq => (List.mem_filter.1 hq).1) hk
        · have hx := hG.g.slots x
          rw [hlt.dst]
          show SRep E.D ν σ (bif Nat.beq x d then _ else f x) _
          cases hxd : Nat.beq x d with
          | true =>
            rw [Nat.eq_of_beq_eq_true hxd]
            unfold slotS
            rw [hlt.lock, cond_false, hs]
            exact .dead _
          | false => exact hx
        · rcases List.mem_cons.1 hq with rfl | hq
          · refine ⟨o, t, d, w.heap.size, a, hlt, ?_, hz, fun ν σ nx lkc hn => hrep ν σ nx _ lkc hn⟩
            rw [hlt.dst]
            show (bif Nat.beq d d then _ else f d) = _
            simp
          · exact (hG.pnd q hq).put hlt.at_ fun e => hjp (e ▸ List.mem_map.2 ⟨q, hq, rfl⟩)
    have stop : Region.ready .any ops lc = [] → ∀ i ∈ L, i ∈ pl.map (·.1) := fun hr i hi => by
      refine Classical.byContradiction fun hn => ?_
      obtain ⟨o, t, d, hlt⟩ := hL i hi
      have : i ∈ Region.ready .any ops lc := mem_ready.2 ⟨hls.un.2 ⟨un_iff.2 ⟨by simpa [bt] using (hls.not i hi).1, (hls.not i hi).2⟩, hn⟩, o, hlt.at_, fun e he _ => by
        have := Array.mem_toList_iff.2 he
        rw [hlt.after] at this; cases this⟩
      rw [hr] at this; cases this
    have pos : ∀ j ∈ Region.ready .any ops lc, ∃ c, fuelc = c + 1 := fun j hj => by
      have := unl_set (mem_ready.1 hj).1
      exact ⟨fuelc - 1, by omega⟩
    cases fuel with
    | zero =>
      simp only [drawS] at h
      obtain ⟨h1, h2⟩ := bif_f h
      obtain ⟨h1, h3⟩ := and_b h1
      have hple := hplL (List.isEmpty_iff.1 h1)
      refine wpK_end (List.eq_nil_iff_forall_not_mem.2 fun j hj => ?_) (hk _ _ _ _ _ _ h2 (hGcx hple))
      have := hls.same (by rw [hple]; rfl) hj
      rw [List.isEmpty_iff.1 h3] at this
      cases this
    | succ fuel =>
      simp only [drawS] at h
      split at h
      · rename_i hne
        have hnone : ∀ j, j ∈ Region.ready .any ops (bt m mask) → j ∈ L := fun j hj => by
          refine Classical.byContradiction fun hn => ?_
          have : j ∈ notL L (Region.ready .any ops (bt m mask)) := List.mem_filter.2 ⟨hj, by
            cases hh : hasN L j with
            | false => rfl
            | true => exact absurd (hasN_iff.1 hh) hn⟩
          rw [hne] at this; cases this
        split at h
        · -- all is done
          have hple := hplL rfl
          refine wpK_end (List.eq_nil_iff_forall_not_mem.2 fun j hj => ?_) (hk _ _ _ _ _ _ h (hGcx hple))
          have := hnone j (hls.same (by rw [hple]; rfl) hj)
          cases this
        · -- a late one gets its name
          rename_i i L'
          obtain ⟨hall, h⟩ := bif_f h
          by_cases hi : i ∈ pl.map (·.1)
          · obtain ⟨q, hq, rfl⟩ := List.mem_map.1 hi
            obtain ⟨pl1, pl2, rfl⟩ := List.append_of_mem hq
            obtain ⟨o, t, d, b, a, hlt, hf, hz, hrep⟩ := hG.pnd q hq
            rw [hlt.at_] at h
            simp only at h
            unfold stepS at h
            rw [hlt.op] at h
            simp only [isEff, cond_true] at h
            obtain ⟨a', hz', h⟩ := alloc_inv h
            rw [hz] at hz'; cases hz'
            simp only [inRw, noBan, Bool.and_self, cond_true, forceO_eq, delNs] at h
            have hfr := hG.g.fresh st.next (Nat.le_refl _)
            let ν2 := ν.add st.next (.pointer (some ⟨b, 0, none⟩))
            have hx : Ext ν ν2 := Nm.add_ext hfr
            have hmem : St cx w σ ((q.2 :: ms) ++ (pl1 ++ pl2).map (·.2)) := hG.mem.perm (by
              simp only [List.map_append, List.map_cons, List.cons_append]
              rw [← List.append_assoc]
              exact List.perm_middle.trans (by rw [List.append_assoc]))
            have hG2 : G E.D ⟨w, σ, feet (q.2 :: ms)⟩ ν0 ro { slots := st.slots, objs := (st.next, a) :: st.objs, next := st.next + 1 } f w ν2 σ (q.2 :: ms) :=
              ⟨hmem.inner, ⟨hrep _ _ _ _ Nm.add_self, hG.g.objs.mono hx (Sub.refl _)⟩, fun j => (hG.g.slots j).mono hx (Sub.refl _), fun x hx2 => by
                show Nm.add ν st.next _ x = none
                unfold Nm.add
                rw [if_neg (by intro e; simp only at hx2; omega)]
                exact hG.g.fresh x (by simp only at hx2; omega), hG.g.ext.trans hx, hG.g.glob⟩
            have hs : SRep E.D ν2 σ (f d) (.ref st.next 0) := by rw [hf]; exact .ref _ _ _ Nm.add_self
            obtain ⟨st', hk', ho', hn', hG'⟩ := hG2.put (d := o.dst) hs h
            rw [putF_same hlt.dst] at hG'
            rw [deadK_eq] at hk'
            have hsub : ∀ x ∈ L', x ∈ q.1 :: L' := fun x hx => by simp [hx]
            refine ih (fuel := fuel) (fuelc := fuelc) (by omega) hun hcl (pl := pl1 ++ pl2) (hls.name (by simp only [List.map_append, List.map_cons]; exact List.perm_middle)) (fun x hx => hL x (hsub x hx)) (fun x hx o d ho hd => deadL_at hx ho hd) hk'
              ⟨hG'.dead, hmem, fun p hp => hG.pnd p (by rcases List.mem_append.1 hp with e | e <;> simp [e])⟩ (hpr.mono hx (Sub.refl _) (Nat.le_refl _)) hk
          · -- it has not come yet
            have hir : i ∈ Region.ready .any ops lc := Classical.byContradiction fun hn => by
              obtain ⟨o, t, d, hlt⟩ := hL i (by simp)
              exact hn (mem_ready.2 ⟨hls.un.2 ⟨un_iff.2 ⟨by simpa [bt] using (hls.not i (by simp)).1, (hls.not i (by simp)).2⟩, hi⟩, o, hlt.at_, fun e he _ => by
                have := Array.mem_toList_iff.2 he
                rw [hlt.after] at this; cases this⟩)
            obtain ⟨c, hc⟩ := pos i hir
            subst hc
            refine ⟨fun hr => (by rw [hr] at hir; cases hir), fun j hj => early rfl j hj ?_⟩
            refine Classical.byContradiction fun hn => hn ?_
            have hd := hls.down (L' := L') hj (fun hx => hn (by simp [hx])) fun x hx => (List.mem_cons.1 (hls.sub x hx)).resolve_left fun e => hi (e ▸ hx)
            have := Nat.eq_of_beq_eq_true (List.all_eq_true.1 hall j hd)
            simp [this]
      · rename_i hne
        have hin : ∀ j ∈ notL L (Region.ready .any ops (bt m mask)), j ∈ Region.ready .any ops (bt m mask) ∧ j ∉ L := fun j hj => by
          obtain ⟨h1, h2⟩ := List.mem_filter.1 hj
          exact ⟨h1, fun hx => by rw [hasN_iff.2 hx] at h2; cases h2⟩
        have hmlt : ∀ j ∈ Region.ready .any ops lc, j < m := fun j hj => by
          have := (un_iff.1 (mem_ready.1 hj).1).1
          rwa [hls.size] at this
        have keepF : ∀ {i : Nat} {o : Oper} {v : Value}, ops[i]? = some o → i ∉ L → ∀ q ∈ pl, Pnd E.P E.D ro ops (putF f o.dst v) q := fun ho hi q hq =>
          (hG.pnd q hq).put ho fun e => hi (hls.sub _ (e ▸ List.mem_map.2 ⟨q, hq, rfl⟩))
        split at h
        · -- one that can be taken first
          rename_i i hfirst
          obtain ⟨hi, o, ho, _, hdst, hfree⟩ := firstQ_ok hfirst
          obtain ⟨hi, hiL⟩ := hin i hi
          have hir := hls.up hi hiL
          obtain ⟨c, hc⟩ := pos i hir
          subst hc
          have hfree' : ∀ j oj, ops[j]? = some oj → j ≠ i → lc.getD j true = false → (∀ e ∈ oj.after, Region.binds .any e = true → e.on ≠ i) → o.apart ops oj = true :=
            fun j oj hj hne hu hno => Region.free_spec ho hfree j oj hj hne (hls.un.1 hu).1 hno
          rw [ho] at h
          simp only at h
          rcases guard_ok hG.g h with ⟨hw, st1, hy, _, hG1⟩ | ⟨hw, st1, hno, _, hG1⟩
          · -- it is carried out
            cases hc : (isEff (obS ro st1) (evS n ro st1) o.op || isCall o.op) with
            | true => rw [hc] at hy; exact hy.elim
            | false =>
              rw [hc] at hy
              simp only [cond_false] at hy
              obtain ⟨oh, kn, hms⟩ := hG1.kn (n := n)
              obtain ⟨rd, s, v, hK, hs, hrun⟩ := pure_ok hP kn hy
              obtain ⟨st', hk', _, _, hG'⟩ := hG1.put hs hK
              rw [deadK_eq] at hk'
              let R : Nat → Prop := fun b => σ b ≠ none ∨ ∃ o ∈ rd, ∃ a, obS ro st1 o = some a ∧ (oh o).foot = some b
              have hRlt : ∀ b, R b → b < w.heap.size := fun b hb => by
                rcases hb with hb | ⟨o', _, a, ha, hb⟩
                · cases hq : σ b with
                  | none => exact absurd hq hb
                  | some x => exact lt_of_block (hG1.mem.view b x hq)
                · exact (oh o').lt w b (hG1.mem.own _ (hms o' a ha)) hb
              refine wpK_first (R := R) (w0 := w) ho (Region.noSelect_spec hsel) hQ c _ prot _ w hcl (fun b _ => rfl) hfree' hir (v := v) ?_ ?_
              · intro w' hE K' hK'
                unfold wpOp
                simp only [ho, if_pos hw]
                left
                have hV : View σ w' := fun b ob hb => by
                  rw [hE b (.inl (by rw [hb]; simp))]
                  exact hG1.mem.view b ob hb
                have hr := hrun w' o rfl hV (fun o' ho' a ha => (oh o').stay w w' (fun b hb => hE b (.inr ⟨o', ho', a, ha, hb⟩)) (hG1.mem.own _ (hms o' a ha)))
                unfold Oper.wp
                rw [eval_mk, hr]
                exact hK'
              · rw [mk_put]
                refine ih (fuel := fuel) (fuelc := c) (by omega) (by have := unl_set (mem_ready.1 hir).1; omega) (hcl.set hir) (hls.set (hmlt i hir) hiL) hL (fun x hx o d ho hd => deadL_at hx ho hd) hk' ⟨hG'.dead, hG.mem, keepF ho hiL⟩ ?_ hk
                intro q hq
                rcases List.mem_cons.1 hq with rfl | hq
                · refine ⟨(i, rd), by simp, rfl, fun b hb => ⟨hRlt b hb, hb.imp id fun ⟨o', ho', a, ha, hf⟩ => ?_⟩⟩
                  obtain ⟨v', hv', hvf⟩ := (kn.o o' a ha).1.foot (kn.o o' a ha).2 hf
                  exact ⟨o', ho', v', hv', hvf⟩
                · obtain ⟨a, ha, hp⟩ := hpr q hq
                  exact ⟨a, by simp [ha], hp⟩
          · -- it is passed over
            obtain ⟨st', hk', _, _, hG'⟩ := hG1.put (v := undef) .und hno
            rw [deadK_eq] at hk'
            refine wpK_first (R := fun _ => False) (w0 := w) ho (Region.noSelect_spec hsel) hQ c _ prot _ w hcl (fun b _ => rfl) hfree' hir (v := undef) ?_ ?_
            · intro w' hE K' hK'
              unfold wpOp
              simp only [ho, hw, Bool.false_eq_true, if_false]
              exact hK'
            · rw [mk_put]
              refine ih (fuel := fuel) (fuelc := c) (by omega) (by have := unl_set (mem_ready.1 hir).1; omega) (hcl.set hir) (hls.set (hmlt i hir) hiL) hL (fun x hx o d ho hd => deadL_at hx ho hd) hk' ⟨hG'.dead, hG.mem, keepF ho hiL⟩ ?_ hk
              intro q hq
              rcases List.mem_cons.1 hq with rfl | hq
              · exact ⟨(i, []), by simp, rfl, fun b hb => hb.elim⟩
              · obtain ⟨a, ha, hp⟩ := hpr q hq
                exact ⟨a, by simp [ha], hp⟩
        · -- any of those that are ready
          obtain ⟨hall, h⟩ := bif_f h
          cases hrs : notL L (Region.ready .any ops (bt m mask)) with
          | nil => exact absurd hrs hne
          | cons i0 rs0 =>
            have hi0 := hin i0 (by rw [hrs]; simp)
            obtain ⟨c, hc⟩ := pos i0 (hls.up hi0.1 hi0.2)
            subst hc
            refine ⟨fun hr => (by have := hls.up hi0.1 hi0.2; rw [hr] at this; cases this), fun j hj => ?_⟩
            by_cases hjL : j ∈ L
            · exact early rfl j hj hjL
            have hjr : j ∈ notL L (Region.ready .any ops (bt m mask)) := by
              rcases Bool.or_eq_true_iff.1 hall with e | e
              · have hL0 := List.isEmpty_iff.1 e
                have := hls.same (by rw [hplL hL0]; rfl) hj
                exact List.mem_filter.2 ⟨this, by
                  cases hh : hasN L j with
                  | false => rfl
                  | true => exact absurd (hasN_iff.1 hh) hjL⟩
              · exact hasN_iff.1 (List.all_eq_true.1 e j (hls.down hj hjL hls.sub))
            have h1 := allR_all h j hjr
            cases ho : ops[j]? with
            | none => rw [ho] at h1; exact h1.elim
            | some o =>
              rw [ho] at h1
              simp only at h1
              unfold wpOp
              simp only [ho]
              rcases guard_ok hG.g h1 with ⟨hw, st1, hy, hobj, hG1⟩ | ⟨hw, st1, hno, _, hG1⟩
              · rw [if_pos hw]
                left
                refine hst hro hy hG1 _ _ fun rd st' f' w' ν' σ' ms' hk' hG' hext hsub hf' hleft => ⟨fun q hq hd => ?_, ?_⟩
                · obtain ⟨a, ha, hpa⟩ := hpr q hq
                  intro b hb
                  rcases (hpa.2 b hb).2 with hσ | ⟨o', ho', v, hv, hvf⟩
                  · cases hq : σ b with
                    | none => exact absurd hq hσ
                    | some x => rw [hG'.mem.view b x (hsub b x hq), hG.mem.view b x hq]
                  · rcases hleft with rfl | ⟨tl, hban, hl⟩
                    · rfl
                    · have hba := List.all_eq_true.1 hban a ha
                      rw [← hpa.1, hd, Bool.false_or] at hba
                      have hbo := List.all_eq_true.1 hba o' ho'
                      obtain ⟨h5, h6⟩ := and_b hbo
                      have hno : o' ∉ tl := hasN_mem (by simpa using h5)
                      cases hob : obS ro st1 o' with
                      | none => rw [hob] at h6; cases h6
                      | some ao =>
                        rw [hob] at h6
                        refine hl b o' ao v hno (obS_find ▸ hob) ?_ hv hvf
                        cases ao <;> first | rfl | cases h6
                · obtain ⟨v, rfl⟩ := hf'
                  simp only [deadK_eq] at hk'
                  have hmem := hG.mem.callM hG'.mem rfl
                  refine ih (fuel := fuel) (fuelc := c) (by omega) (by have := unl_set (mem_ready.1 hj).1; omega) (hcl.set hj) (hls.set (hmlt j hj) hjL) hL (fun x hx o d ho hd => deadL_at hx ho hd) hk'
                    ⟨G.dead ⟨hmem.inner, hG'.objs, hG'.slots, hG'.fresh, hG'.ext, hG'.glob⟩, hmem, keepF ho hjL⟩ ((hpr.mono hext hsub hG'.mem.keeps.size).filter) hk
              · simp only [hw, Bool.false_eq_true, if_false]
                rw [mk_put]
                obtain ⟨st', hk', _, _, hG'⟩ := hG1.put (v := undef) .und hno
                rw [deadK_eq] at hk'
                refine ⟨fun q _ _ b _ => rfl, ?_⟩
                exact ih (fuel := fuel) (fuelc := c) (by omega) (by have := unl_set (mem_ready.1 hj).1; omega) (hcl.set hj) (hls.set (hmlt j hj) hjL) hL (fun x hx o d ho hd => deadL_at hx ho hd) hk' ⟨hG'.dead, hG.mem, keepF ho hjL⟩ hpr.filter hk
theorem draw_ok {E : Ev S} {inlh : InlH S} {C : Ro S → Prop} (hP : E.D.OkP E.P) (hst : StH E inlh n C) (hro : C ro) (hsel : Region.noSelect ops = true) (hQ : ∀ c a w, ¬ Q (.panic c) a w) {k : AS S → Prop}
    (h : drawT E inlh n ro ops k st) (hG : G E.D cx ν0 ro st f w ν σ ms) (hk : ∀ st' f' w' ν' σ' ms', k st' → G E.D cx ν0 ro st' f' w' ν' σ' ms' → Q .normal (mk n f') w') : wpK E.P ops Q ops.size (bt ops.size 0) [] (mk n f) w := by
  unfold drawT at h
  rw [forceL_eq, deadK_eq] at h
  have hz : ∀ j, ¬ (bt ops.size 0).getD j false = true := fun j hj => by
    have := (bt_get.1 hj).2
    simp at this
  have hL : Lts E.P E.D ro ops (latesQ E.P E.D ro ops) := fun i hi => isLate_ok (List.mem_filter.1 hi).2
  have hun : unl (bt ops.size 0) ≤ ops.size := by
    unfold unl
    refine Nat.le_trans (List.countP_le_length) ?_
    simp [bt]
  refine draw_go hP hst hro hsel hQ (ν := ν) (N := ops.size + ops.size) (pl := []) (Nat.le_refl _) hun closed_zero ⟨by simp [bt], fun j => by simp [hz j], by simp, fun i hi => ⟨List.mem_range.1 (List.mem_filter.1 hi).1, hz i⟩, List.nodup_range.sublist List.filter_sublist, by simp⟩ hL
    (fun i hi o d ho hd => deadL_at hi ho hd) h ⟨?_, by simpa using hG.mem, by simp⟩ (fun q hq => by cases hq) hk
  have hd : G E.D cx ν0 ro (deadL ops (latesQ E.P E.D ro ops) st) f w ν σ ms := hG.dead
  refine ⟨?_, hd.objs, hd.slots, hd.fresh, hd.ext, hd.glob⟩
  have : St cx w σ (ms ++ []) := by simpa using hG.mem
  exact this.inner
end Go.Fx
end
section
namespace Go.Fx
open Go Go.RowKit Go.Fl Go.Fl.Lk
variable {S : Sig} {P : Program} {D : Shp S} {ν ν' ν0 : Nm} {σ τ : Hv} {n : Nat} {f : Fr}
variable {w : World} {cx : Cx} {ro : Ro S} {st : AS S} {ms : List HObj}
/-- A part: its value, and the object that it is. -/
def PartRep (D : Shp S) (σ : Hv) : (kd : Kd S) → kd.ty → Value → List HObj → Prop
  | .int k, x, u, hs => u = .int k x ∧ hs = []
  | .bool, x, u, hs => u = .bool x ∧ hs = []
  | .str, x, u, hs => u = .string x ∧ hs = []
  | .sl T, x, u, hs => RepF D σ u (.sl T x) ∧ hs = []
  | .own e T, x, u, hs => ∃ xs, hs = [vec u e (D.size T) (List.length x) xs] ∧ Els D σ T xs x ∧ List.length x ≤ 140737488355328 ∧ u.oneCell' = true
  | .el T, x, u, hs => ∃ cs, u = .agg cs.toArray ∧ RowF D σ cs (D.shape T x) ∧ hs = []
  | .map K V, F, u, hs => ∃ b m, u = .map (some b) ∧ hs = [smapK (kenc D K) b m] ∧ ∀ k, ORel (ElV D σ V) (m k) (F k)
  | .arr ty T N, x, u, hs => ∃ b cs, u = .pointer (some ⟨b, 0, none⟩) ∧ hs = [blk b ty cs] ∧ Els D σ T cs x ∧ List.length x = N
  | .iter K V, x, u, hs => ∃ r b es clock cv, u = .pointer (some ⟨r, 0, none⟩) ∧ hs = [itrK (kenc D K) r b es clock x.2 cv] ∧ σ b = some (.map es clock) ∧ KeysOf (kenc D K) es.toList ∧ MBk es.toList clock ∧
      (∀ k, ORel (ElV D σ V) (lkK (kenc D K) es.toList k) (x.1 k)) ∧ (∀ k, (D.shape K k).all keyF = true) ∧ ∀ a b, kenc D K a = kenc D K b → a = b
  | .siter, x, u, hs => ∃ r, u = .pointer (some ⟨r, 0, none⟩) ∧ hs = [sitr r x.1 x.2]
theorem PartRep.mono {kd : Kd S} {x : kd.ty} {u : Value} {hs : List HObj} (h : PartRep D σ kd x u hs) (hsub : Sub σ τ) : PartRep D τ kd x u hs := by
  cases kd with
  | int k => exact h
  | bool => exact h
  | str => exact h
  | sl T => exact ⟨h.1.mono hsub, h.2⟩
  | own e T => obtain ⟨xs, h1, h2, h3⟩ := h; exact ⟨xs, h1, h2.mono hsub, h3⟩
  | el T => obtain ⟨cs, h1, h2, h3⟩ := h; exact ⟨cs, h1, h2.mono hsub, h3⟩
  | map K V => obtain ⟨b, m, h1, h2, h3⟩ := h; exact ⟨b, m, h1, h2, fun k => (h3 k).imp fun v y h => h.mono hsub⟩
  | arr ty T N => obtain ⟨b, cs, h1, h2, h3, h4⟩ := h; exact ⟨b, cs, h1, h2, h3.mono hsub, h4⟩
  | iter K V => obtain ⟨r, b, es, clock, cv, h1, h2, h3, h4, h5, h6, h7⟩ := h; exact ⟨r, b, es, clock, cv, h1, h2, hsub _ _ h3, h4, h5, fun k => (h6 k).imp fun v y h => h.mono hsub, h7⟩
  | siter => exact h
/-- A cell of an object. -/
def cellV (ν : Nm) (w : World) (o i : Nat) : Option Value :=
  match ν o with
  | some (.pointer (some a)) => w.cell? ⟨a.block, i, none⟩
  | _ => none
def Parts (D : Shp S) (ν : Nm) (σ : Hv) (f : Fr) (w : World) : (l : List (Item S)) → HL l → List HObj → Prop
  | [], _, hs => hs = []
  | (.slot j, kd) :: l, (x, xs), hs => ∃ h1 h2, hs = h1 ++ h2 ∧ PartRep D σ kd x (f j) h1 ∧ Parts D ν σ f w l xs h2
  | (.cell o i, kd) :: l, (x, xs), hs => ∃ h1 h2 u, hs = h1 ++ h2 ∧ cellV ν w o i = some u ∧ PartRep D σ kd x u h1 ∧ Parts D ν σ f w l xs h2
  | (.obj o, kd) :: l, (x, xs), hs => ∃ h1 h2 u, hs = h1 ++ h2 ∧ ν o = some u ∧ PartRep D σ kd x u h1 ∧ Parts D ν σ f w l xs h2
/-- A state of which some objects have been taken. -/
structure GT (D : Shp S) (cx : Cx) (ro : Ro S) (st : AS S) (f : Fr) (w : World) (ν : Nm) (σ : Hv) (tk ms : List HObj) : Prop where
  mem : St cx w σ (tk ++ ms)
  objs : Objs D ν σ ro.cell (st.objs ++ ro.objs) ms
  slots : ∀ j, SRep D ν σ (f j) (slotS ro st j)
theorem GT.or {tk : List HObj} (h : GT D cx ro st f w ν σ tk ms) : ∃ oh : Nat → HObj, ∀ o a, obS ro st o = some a → ORep D ν σ ro.cell o a (oh o) := by
  have hc : ∀ o, ∃ m : HObj, ∀ a, obS ro st o = some a → ORep D ν σ ro.cell o a m := by
    intro o
    cases ho : obS ro st o with
    | none => exact ⟨triv, fun a h => by cases h⟩
    | some a =>
      obtain ⟨m, hm, hr⟩ := h.objs.find (obS_find ▸ ho)
      exact ⟨m, fun a' h' => by cases h'; exact hr⟩
  exact ⟨fun o => Classical.choose (hc o), fun o a ho => Classical.choose_spec (hc o) a ho⟩
/-- One object is taken out of the state. -/
theorem GT.take {tk : List HObj} {o : Nat} {a : AO S} (h : GT D cx ro st f w ν σ tk ms) (hf : findN st.objs o = some a) :
    ∃ m ms', ORep D ν σ ro.cell o a m ∧ m.ok w ∧ GT D cx ro { st with objs := delN st.objs o } f w ν σ (tk ++ [m]) ms' := by
  obtain ⟨m, ms', hp, hr, ho⟩ := h.objs.take (o := o) (a := a) (by rw [findN_append, hf])
  rw [delN_append hf] at ho
  have hS := h.mem.perm (List.Perm.append_left tk hp)
  refine ⟨m, ms', hr, hS.own m (by simp), ⟨?_, ho, h.slots⟩⟩
  rw [List.append_assoc]
  exact hS
/-- Lists are frozen. -/
theorem GT.freeze {tk : List HObj} {fz : List Nat} {k : AS S → Prop} (hD : D.Ok) (h : GT D cx ro st f w ν σ tk ms) (hk : frzIn st fz k) :
    ∃ st' σ' ms', k st' ∧ st'.slots = st.slots ∧ st'.next = st.next ∧ Sub σ σ' ∧ GT D cx ro st' f w ν σ' tk ms' ∧ ∀ o e T l v, o ∈ fz → findN st.objs o = some (.vec e T l) → ν o = some v → RepF D σ' v (.sl T l) := by
  unfold frzIn at hk
  obtain ⟨l, hl, hk⟩ := optK_some hk
  obtain ⟨hn, hk⟩ := bif_f hk
  obtain ⟨tlo, h1, h2, h3, _⟩ := frzs_spec hl
  subst h1
  obtain ⟨ins, rest, hp, ho1, ho2⟩ := h.objs.takes h2 h3
  have hS := h.mem.perm (ms' := (tk ++ rest) ++ ins) (by
    rw [List.append_assoc]
    exact List.Perm.append_left tk (hp.trans List.perm_append_comm))
  obtain ⟨σ1, ms1, hS1, hs1, ho3⟩ := freeze_all hD hl rfl h3 ho1 hS
  refine ⟨_, σ1, ms1 ++ rest, hk, rfl, rfl, hs1, ⟨hS1.perm (by rw [List.append_assoc]; exact List.Perm.append_left tk List.perm_append_comm), ?_, fun j => (h.slots j).mono (Ext.refl ν) hs1⟩, frz_rep hl ho3⟩
  rw [List.append_assoc]
  exact ho3.append (ho2.mono (Ext.refl ν) hs1)
theorem frz_in {fz : List Nat} {k : AS S → Prop} (hK : frzIn st fz k) : ∀ {a : AO S} (o : Nat), o ∈ fz → obS ro st o = some a → findN st.objs o = some a := by
  intro a o ho hob
  unfold frzIn at hK
  obtain ⟨_, hl, _⟩ := optK_some hK
  obtain ⟨tlo, h1, _, h3, _⟩ := frzs_spec hl
  subst h1
  obtain ⟨q, hq, rfl⟩ := List.mem_map.1 ho
  exact obS_rw (h3 q hq) hob
/-- A part is taken out of a place. -/
theorem getK_ok {tk : List HObj} {kd : Kd S} {s : SV S} {u : Value} {K : kd.ty → AS S → Prop} (hD : D.Ok) (h : GT D cx ro st f w ν σ tk ms) (hs : SRep D ν σ u s) (hK : getK D ro st s kd K) :
    ∃ x st' σ' hs ms', K x st' ∧ st'.slots = st.slots ∧ Sub σ σ' ∧ GT D cx ro st' f w ν σ' (tk ++ hs) ms' ∧ PartRep D σ' kd x u hs := by
  have same : ∀ {x : kd.ty}, K x st → PartRep D σ kd x u [] → ∃ x st' σ' hs ms', K x st' ∧ st'.slots = st.slots ∧ Sub σ σ' ∧ GT D cx ro st' f w ν σ' (tk ++ hs) ms' ∧ PartRep D σ' kd x u hs :=
    fun {x} hk hp => ⟨x, st, σ, [], ms, hk, rfl, Sub.refl _, by rw [List.append_nil]; exact h, hp⟩
  cases kd with
  | int kk =>
    simp only [getK] at hK
    split at hK
    · rename_i k' a
      obtain ⟨hk, hK2⟩ := bif_f hK
      clear hK
      have hk' : kk = k' := by simpa using hk
      subst hk'
      exact same hK2 ⟨rep_int hs, rfl⟩
    · exact hK.elim
  | bool =>
    obtain ⟨b, hb, hK⟩ := optK_some hK
    exact same hK ⟨bool_ok hs hb, rfl⟩
  | str =>
    simp only [getK] at hK
    split at hK
    · exact same hK ⟨rep_str hs, rfl⟩
    · exact hK.elim
  | sl T =>
    simp only [getK] at hK
    split at hK
    · rw [rep_nils hs] at same ⊢
      exact same hK ⟨RepF.ofRSl hD RSl.nil, rfl⟩
    · obtain ⟨e1, hK⟩ := cast_ok hK
      subst e1
      exact same hK ⟨rep_sl hs, rfl⟩
    · rename_i o
      obtain ⟨oh, hor⟩ := h.or
      split at hK
      · rename_i T' l hob
        obtain ⟨e1, hK⟩ := cast_ok hK
        subst e1
        obtain ⟨v, hν, _, hr⟩ := hor _ _ hob
        rw [rep_hnd hs hν] at same ⊢
        exact same hK ⟨hr, rfl⟩
      · rename_i e T' l hob
        obtain ⟨e1, hK⟩ := cast_ok hK
        subst e1
        obtain ⟨v, xs, hν, _⟩ := hor _ _ hob
        have hu := rep_hnd hs hν
        have hfo : findN st.objs o = some (.vec e T' l) := frz_in (ro := ro) hK o (by simp) hob
        obtain ⟨st', σ', ms', hK', hsl, _, hsub, hG, hrep⟩ := h.freeze hD hK
        exact ⟨_, st', σ', [], ms', hK', hsl, hsub, by rw [List.append_nil]; exact hG, ⟨hrep o e T' l u (by simp) hfo (hu ▸ hν), rfl⟩⟩
      · exact hK.elim
    · exact hK.elim
  | own e T =>
    simp only [getK] at hK
    split at hK
    case h_2 => exact hK.elim
    rename_i a l hq
    rcases ownQ_ok hq with ⟨rfl, rfl, rfl⟩ | ⟨o, rfl, rfl, hob⟩
    · have hu := rep_nils hs
      refine ⟨_, _, σ, [vec u e (D.size T) ([] : List (S.car T)).length []], ms, hK, rfl, Sub.refl _, ⟨?_, h.objs, h.slots⟩, ⟨[], rfl, ⟨by simp, fun i x hx => by simp at hx⟩, by simp, by rw [hu]; rfl⟩⟩
      rw [hu]
      have := (h.mem.addNil e (D.size T)).perm (ms' := (tk ++ [vec (.slice none 0 0) e (D.size T) ([] : List (S.car T)).length []]) ++ ms) (by rw [List.append_assoc]; exact List.perm_middle.symm)
      exact this
    · obtain ⟨m, ms', hr, hok, hG⟩ := h.take hob
      obtain ⟨v, xs, hν, hm, hE, hl⟩ := hr
      have hu := rep_hnd hs hν
      subst hm hu
      exact ⟨_, _, σ, _, ms', hK, rfl, Sub.refl _, hG, ⟨xs, rfl, hE, hl, vec_one hok⟩⟩
  | el T =>
    simp only [getK] at hK
    split at hK
    case h_2 => exact hK.elim
    rename_i cs
    obtain ⟨q, hq, hK⟩ := optK_some hK
    obtain ⟨xs, fz⟩ := q
    obtain ⟨oh, hor⟩ := h.or
    cases hs with
    | agg vs _ hl hr h1 =>
      obtain ⟨st', σ', ms', hK', hsl, _, hsub, hG, hrep⟩ := h.freeze hD hK
      obtain ⟨x, hx, hK'⟩ := optK_some hK'
      have hrow := toFs_ok hD hor hsub ⟨hl, hr, h1⟩ hq (fun o e T l v ho hob hν => hrep o e T l v ho (frz_in (ro := ro) hK o ho hob) hν)
      exact ⟨x, st', σ', [], ms', hK', hsl, hsub, by rw [List.append_nil]; exact hG, ⟨vs, rfl, hD.bld _ _ _ _ _ hx hrow, rfl⟩⟩
  | map K V => exact hK.elim
  | arr ty T N => exact hK.elim
  | iter K V => exact hK.elim
  | siter => exact hK.elim
theorem getO_ok {tk : List HObj} {kd : Kd S} {o : Nat} {K : kd.ty → AS S → Prop} (h : GT D cx ro st f w ν σ tk ms) (hK : getO o st kd K) :
    ∃ x st' hs ms' u, K x st' ∧ st'.slots = st.slots ∧ GT D cx ro st' f w ν σ (tk ++ hs) ms' ∧ ν o = some u ∧ PartRep D σ kd x u hs := by
  cases kd with
  | own e T =>
    simp only [getO] at hK
    split at hK
    case h_2 => exact hK.elim
    rename_i e' T' l hob
    obtain ⟨he, hK⟩ := bif_f hK
    have he := Nat.eq_of_beq_eq_true he
    obtain ⟨e1, hK⟩ := cast_ok hK
    subst e1
    obtain ⟨m, ms', hr, hok, hG⟩ := h.take hob
    obtain ⟨v, xs, hν, hm, hE, hl⟩ := hr
    subst hm
    rw [← he] at hG hok
    exact ⟨_, _, _, ms', v, hK, rfl, hG, hν, ⟨xs, rfl, hE, hl, vec_one hok⟩⟩
  | map Kc V =>
    simp only [getO] at hK
    split at hK
    case h_2 => exact hK.elim
    rename_i K' V' F hob
    obtain ⟨e1, e2, hK⟩ := withMap_ok hK
    subst e1 e2
    obtain ⟨m, ms', hr, hok, hG⟩ := h.take hob
    obtain ⟨b, mm, hν, hm, hF⟩ := hr
    subst hm
    exact ⟨_, _, _, ms', _, hK, rfl, hG, hν, ⟨b, mm, rfl, rfl, hF⟩⟩
  | arr ty T N =>
    simp only [getO] at hK
    split at hK
    case h_2 => exact hK.elim
    rename_i ty' T' N' l hob
    obtain ⟨hc, hK⟩ := bif_f hK
    obtain ⟨h1, h2⟩ := and_b hc
    have h1 := Nat.eq_of_beq_eq_true h1
    have h2 := Nat.eq_of_beq_eq_true h2
    obtain ⟨e1, hK⟩ := cast_ok hK
    subst e1
    obtain ⟨m, ms', hr, hok, hG⟩ := h.take hob
    obtain ⟨b, cs, hν, hm, hE, hN⟩ := hr
    subst hm
    rw [← h1] at hG
    exact ⟨_, _, _, ms', _, hK, rfl, hG, hν, ⟨b, cs, rfl, rfl, hE, hN.trans h2.symm⟩⟩
  | iter Kc V =>
    simp only [getO] at hK
    split at hK
    case h_2 => exact hK.elim
    rename_i K' V' F done cur hob
    obtain ⟨e1, e2, hK⟩ := withMap_ok hK
    subst e1 e2
    obtain ⟨e1, hK⟩ := cast_ok hK
    obtain ⟨m, ms', hr, hok, hG⟩ := h.take hob
    obtain ⟨r, b, es, clock, cv, hν, hm, h1, h2, h3, h4, h5, h6, _⟩ := hr
    subst hm
    exact ⟨_, _, _, ms', _, hK, rfl, hG, hν, ⟨r, b, es, clock, cv, rfl, rfl, h1, h2, h3, h4, h5, h6⟩⟩
  | siter =>
    simp only [getO] at hK
    split at hK
    case h_2 => exact hK.elim
    rename_i s pos hob
    obtain ⟨m, ms', hr, hok, hG⟩ := h.take hob
    obtain ⟨r, hν, hm⟩ := hr
    subst hm
    exact ⟨_, _, _, ms', _, hK, rfl, hG, hν, ⟨r, rfl, rfl⟩⟩
  | _ => exact hK.elim
/-- A cell of an object of the state. -/
theorem GT.cell {tk : List HObj} {o i : Nat} {ty : TypeId} {l : List (SV S)} {s : SV S} (h : GT D cx ro st f w ν σ tk ms) (ho : findN st.objs o = some (.cells ty l)) (hi : (resL (ro.cell o) 0 l)[i]? = some s) :
    ∃ u, cellV ν w o i = some u ∧ SRep D ν σ u s := by
  obtain ⟨m, hm, hr⟩ := h.objs.find (o := o) (by rw [findN_append, ho])
  obtain ⟨b, cs, hν, hmm, hrow⟩ := hr
  subst hmm
  have hok := h.mem.own _ (show blk b ty cs ∈ tk ++ ms by simp [hm])
  obtain ⟨u, hu⟩ := getq (l := cs) (k := i) (by rw [hrow.1]; exact lt_of_getq hi)
  refine ⟨u, ?_, hrow.2.1 i u s hu hi⟩
  unfold cellV
  rw [hν]
  have := blk_row hok i u hu
  rw [add_lit, Nat.zero_add] at this
  exact this
theorem resL_get {g : Nat → SV S} : ∀ {l : List (SV S)} {k i : Nat} {s : SV S}, l[i]? = some s → s ≠ .lk → (resL g k l)[i]? = some s
  | x :: l, k, 0, s, h, hn => by
    simp at h
    subst h
    cases x <;> first | rfl | exact absurd rfl hn
  | x :: l, k, i + 1, s, h, hn => by
    have := resL_get (g := g) (l := l) (k := k + 1) (i := i) (by simpa using h) hn
    cases x <;> simpa [resL] using this
theorem getK_lk {kd : Kd S} {K : kd.ty → AS S → Prop} (h : getK D ro st .lk kd K) : False := by
  cases kd with
  | bool =>
    simp only [getK] at h
    obtain ⟨b, hb, _⟩ := optK_some h
    cases hb
  | own e T =>
    simp only [getK] at h
    split at h
    · rename_i hq; cases hq
    · exact h
  | _ => exact h.elim
theorem getAll_ok (hD : D.Ok) : ∀ {l : List (Item S)} {st : AS S} {σ : Hv} {tk ms : List HObj} {K : HL l → AS S → Prop}, GT D cx ro st f w ν σ tk ms → getAll D ro l st K →
    ∃ xs st' σ' hs ms', K xs st' ∧ st'.slots = st.slots ∧ Sub σ σ' ∧ GT D cx ro st' f w ν σ' (tk ++ hs) ms' ∧ Parts D ν σ' f w l xs hs := by
  intro l
  induction l with
  | nil => intro st σ tk ms K h hK; exact ⟨(), st, σ, [], ms, hK, rfl, Sub.refl _, by rw [List.append_nil]; exact h, rfl⟩
  | cons it l ih =>
    intro st σ tk ms K h hK
    obtain ⟨pl, kd⟩ := it
    simp only [getAll] at hK
    cases pl with
    | slot j =>
      simp only [getI] at hK
      obtain ⟨x, st1, σ1, h1, ms1, hK1, hsl1, hsub1, hG1, hp1⟩ := getK_ok hD h (h.slots j) hK
      obtain ⟨xs, st2, σ2, h2, ms2, hK2, hsl2, hsub2, hG2, hp2⟩ := ih hG1 hK1
      exact ⟨(x, xs), st2, σ2, h1 ++ h2, ms2, hK2, hsl2.trans hsl1, hsub1.trans hsub2, by rw [← List.append_assoc]; exact hG2, ⟨h1, h2, rfl, hp1.mono hsub2, hp2⟩⟩
    | cell o i =>
      simp only [getI] at hK
      split at hK
      case h_2 => exact hK.elim
      rename_i ty lc hob
      split at hK
      case h_2 => exact hK.elim
      rename_i s hs
      have hne : s ≠ .lk := fun he => by subst he; exact getK_lk hK
      obtain ⟨u, hu, hsr⟩ := h.cell hob (resL_get hs hne)
      obtain ⟨x, st1, σ1, h1, ms1, hK1, hsl1, hsub1, hG1, hp1⟩ := getK_ok hD h hsr hK
      obtain ⟨xs, st2, σ2, h2, ms2, hK2, hsl2, hsub2, hG2, hp2⟩ := ih hG1 hK1
      exact ⟨(x, xs), st2, σ2, h1 ++ h2, ms2, hK2, hsl2.trans hsl1, hsub1.trans hsub2, by rw [← List.append_assoc]; exact hG2, ⟨h1, h2, u, rfl, hu, hp1.mono hsub2, hp2⟩⟩
    | obj o =>
      simp only [getI] at hK
      obtain ⟨x, st1, h1, ms1, u, hK1, hsl1, hG1, hu, hp1⟩ := getO_ok h hK
      obtain ⟨xs, st2, σ2, h2, ms2, hK2, hsl2, hsub2, hG2, hp2⟩ := ih hG1 hK1
      exact ⟨(x, xs), st2, σ2, h1 ++ h2, ms2, hK2, hsl2.trans hsl1, hsub2, by rw [← List.append_assoc]; exact hG2, ⟨h1, h2, u, rfl, hu, hp1.mono hsub2, hp2⟩⟩
end Go.Fx
end
section
namespace Go.Fx
open Go Go.RowKit Go.Fl Go.Fl.Lk
variable {S : Sig} {P : Program} {D : Shp S} {ν ν' ν0 : Nm} {σ τ : Hv} {n : Nat} {f : Fr}
variable {w : World} {cx : Cx} {ro : Ro S} {st : AS S} {ms : List HObj}
theorem ORep.transfer {ν₁ ν₂ ν' : Nm} {σ₁ σ : Hv} {lkc : Nat → Nat → SV S} {o : Nat} {a : AO S} {m₁ m₂ : HObj} (h1 : ORep D ν₁ σ₁ lkc o a m₁) (h2 : ORep D ν₂ σ lkc o a m₂) (hn : ∀ o v, ν₁ o = some v → ν' o = ν₂ o) : ORep D ν' σ lkc o a m₂ := by
  cases a with
  | cells ty l =>
    obtain ⟨b1, cs1, e1, _, hr1⟩ := h1
    obtain ⟨b2, cs2, e2, hm, hr2⟩ := h2
    refine ⟨b2, cs2, by rw [hn _ _ e1]; exact e2, hm, hr2.1, fun j v s hj hs => ?_, hr2.2.2⟩
    obtain ⟨u, hu⟩ := getq (l := cs1) (k := j) (by rw [hr1.1]; exact lt_of_getq hs)
    exact (hr1.2.1 j u s hu hs).transfer (hr2.2.1 j v s hj hs) hn
  | vec e T l =>
    obtain ⟨v1, xs1, e1, _⟩ := h1
    obtain ⟨v2, xs2, e2, h⟩ := h2
    exact ⟨v2, xs2, by rw [hn _ _ e1]; exact e2, h⟩
  | frz T l =>
    obtain ⟨v1, e1, _⟩ := h1
    obtain ⟨v2, e2, h⟩ := h2
    exact ⟨v2, by rw [hn _ _ e1]; exact e2, h⟩
  | arr ty T N l =>
    obtain ⟨b1, cs1, e1, _⟩ := h1
    obtain ⟨b2, cs2, e2, h⟩ := h2
    exact ⟨b2, cs2, by rw [hn _ _ e1]; exact e2, h⟩
  | map K V F =>
    obtain ⟨b1, m1, e1, _⟩ := h1
    obtain ⟨b2, m2, e2, h⟩ := h2
    exact ⟨b2, m2, by rw [hn _ _ e1]; exact e2, h⟩
  | iter K V F done cur =>
    obtain ⟨r1, b1, es1, c1, cv1, e1, _⟩ := h1
    obtain ⟨r2, b2, es2, c2, cv2, e2, h⟩ := h2
    exact ⟨r2, b2, es2, c2, cv2, by rw [hn _ _ e1]; exact e2, h⟩
  | siter s pos =>
    obtain ⟨r1, e1, _⟩ := h1
    obtain ⟨r2, e2, h⟩ := h2
    exact ⟨r2, by rw [hn _ _ e1]; exact e2, h⟩
theorem Objs.transfer {ν₂ ν' νe : Nm} {lkc : Nat → Nat → SV S} : ∀ {os : List (Nat × AO S)} {ms : List HObj}, (∀ q ∈ os, ∃ σ m, ORep D νe σ lkc q.1 q.2 m) → Objs D ν₂ σ lkc os ms → (∀ o v, νe o = some v → ν' o = ν₂ o) → Objs D ν' σ lkc os ms
  | [], [], _, _, _ => trivial
  | q :: os, m :: ms, h1, h2, hn => by
    obtain ⟨σ1, m1, h⟩ := h1 q (by simp)
    exact ⟨h.transfer h2.1 hn, Objs.transfer (fun q hq => h1 q (by simp [hq])) h2.2 hn⟩
theorem put_ok {kd : Kd S} {x : kd.ty} {u : Value} {hs : List HObj} {nm : Nat} {lkc : Nat → Nat → SV S} (h : PartRep D σ kd x u hs) (hn : ν nm = some u) : SRep D ν σ u (putK D nm kd x).1 ∧ Objs D ν σ lkc (putK D nm kd x).2 hs := by
  cases kd with
  | int k => obtain ⟨rfl, rfl⟩ := h; exact ⟨.f (.int _ _), trivial⟩
  | bool => obtain ⟨rfl, rfl⟩ := h; exact ⟨.f (.bool _), trivial⟩
  | str => obtain ⟨rfl, rfl⟩ := h; exact ⟨.f (.str _), trivial⟩
  | sl T => obtain ⟨h, rfl⟩ := h; exact ⟨.f h, trivial⟩
  | own e T =>
    obtain ⟨xs, rfl, h1, h2, h3⟩ := h
    exact ⟨.hnd nm u hn h3, ⟨u, xs, hn, rfl, h1, h2⟩, trivial⟩
  | el T =>
    obtain ⟨cs, rfl, h1, rfl⟩ := h
    have := h1.toS (ν := ν)
    exact ⟨.agg cs _ this.1 this.2.1 this.2.2, trivial⟩
  | map K V =>
    obtain ⟨b, m, rfl, rfl, h1⟩ := h
    exact ⟨.hnd nm _ hn rfl, ⟨b, m, hn, rfl, h1⟩, trivial⟩
  | arr ty T N =>
    obtain ⟨b, cs, rfl, rfl, h1, h2⟩ := h
    exact ⟨.ref nm 0 b hn, ⟨b, cs, hn, rfl, h1, h2⟩, trivial⟩
  | iter K V =>
    obtain ⟨r, b, es, clock, cv, rfl, rfl, h1, h2, h3, h4, h5, h6⟩ := h
    exact ⟨.ref nm 0 r hn, ⟨r, b, es, clock, cv, hn, rfl, h1, h2, h3, h4, h5, h6, by simp⟩, trivial⟩
  | siter =>
    obtain ⟨r, rfl, rfl⟩ := h
    exact ⟨.ref nm 0 r hn, ⟨r, hn, rfl⟩, trivial⟩
theorem putK_lk {kd : Kd S} {x : kd.ty} {nm : Nat} : (putK D nm kd x).1 ≠ .lk := by cases kd <;> simp [putK]
/-- All parts are put back. -/
theorem putAll_ok {nm0 : Nat} {lkc : Nat → Nat → SV S} : ∀ {l : List (Item S)} {xs : HL l} {hs ams : List HObj} {nm : Nat} {νk : Nm} {a : Acc S}, Parts D ν σ f w l xs hs → nm0 ≤ nm → objLt nm0 l = true → (∀ o, nm ≤ o → νk o = none) → (∀ o, o < nm0 → νk o = ν o) →
    (∀ j, SRep D νk σ (f j) (a.slots j)) → Objs D νk σ lkc a.objs ams → (∀ q ∈ a.cells, q.2 ≠ .lk ∧ ∃ u, cellV ν w q.1.1 q.1.2 = some u ∧ SRep D νk σ u q.2) →
    ∃ νf ams', Ext νk νf ∧ (∀ o, nm + l.length ≤ o → νf o = none) ∧ (∀ o, o < nm0 → νf o = ν o) ∧ (hs ++ ams).Perm ams' ∧ (∀ j, SRep D νf σ (f j) ((putAll D l xs nm a).slots j)) ∧ Objs D νf σ lkc (putAll D l xs nm a).objs ams' ∧
      ∀ q ∈ (putAll D l xs nm a).cells, q.2 ≠ .lk ∧ ∃ u, cellV ν w q.1.1 q.1.2 = some u ∧ SRep D νf σ u q.2 := by
  intro l
  induction l with
  | nil =>
    intro xs hs ams nm νk a hp _ _ hfr hag h1 h2 h3
    have hp' : hs = [] := hp
    subst hp'
    exact ⟨νk, ams, Ext.refl _, by simpa using hfr, hag, .refl _, h1, h2, h3⟩
  | cons it l ih =>
    intro xs hs ams nm νk a hp hle hlt hfr hag h1 h2 h3
    obtain ⟨pl, kd⟩ := it
    obtain ⟨x, xs⟩ := xs
    have hnk : νk nm = none := hfr nm (Nat.le_refl _)
    have hfr' : ∀ u : Value, ∀ o, nm + 1 ≤ o → (νk.add nm u) o = none := by
      intro u o ho
      rcases hq : (νk.add nm u) o with _ | v
      · rfl
      · rcases Nm.add_new o v hq with h4 | h4
        · rw [hfr o (by omega)] at h4; cases h4
        · omega
    have hag' : ∀ u : Value, ∀ o, o < nm0 → (νk.add nm u) o = ν o := by
      intro u o ho
      rw [← hag o ho]
      unfold Nm.add
      rw [if_neg (by omega)]
    have elen : nm + 1 + l.length = nm + (l.length + 1) := by omega
    cases pl with
    | slot j =>
      obtain ⟨hs1, hs2, rfl, hp1, hp2⟩ := hp
      have hadd := Nm.add_ext (v := f j) hnk
      have hput := put_ok (lkc := lkc) hp1 (Nm.add_self (ν := νk) (o := nm) (v := f j))
      obtain ⟨νf, ams', e1, e2, e3, e4, e5, e6, e7⟩ := ih (ams := hs1 ++ ams) (nm := nm + 1) (νk := νk.add nm (f j)) (a := { a with slots := updS a.slots j (putK D nm kd x).1, objs := (putK D nm kd x).2 ++ a.objs }) hp2 (by omega) hlt (hfr' _) (hag' _)
        (fun j' => by
          show SRep D _ σ (f j') (updS a.slots j (putK D nm kd x).1 j')
          unfold updS
          cases hb : Nat.beq j' j with
          | true =>
            have := Nat.eq_of_beq_eq_true hb
            subst this
            exact hput.1
          | false => exact (h1 j').mono hadd (Sub.refl _))
        (hput.2.append (h2.mono hadd (Sub.refl _))) (fun q hq => ⟨(h3 q hq).1, by obtain ⟨u, hu, hr⟩ := (h3 q hq).2; exact ⟨u, hu, hr.mono hadd (Sub.refl _)⟩⟩)
      refine ⟨νf, ams', hadd.trans e1, by rw [List.length_cons, ← elen]; exact e2, e3, ?_, e5, e6, e7⟩
      refine List.Perm.trans ?_ e4
      rw [List.append_assoc]
      rw [← List.append_assoc, ← List.append_assoc]
      exact List.Perm.append_right ams List.perm_append_comm
    | cell o i =>
      obtain ⟨hs1, hs2, u, rfl, hu, hp1, hp2⟩ := hp
      simp only [objLt] at hlt
      obtain ⟨_, hlt⟩ := and_b hlt
      have hadd := Nm.add_ext (v := u) hnk
      have hput := put_ok (lkc := lkc) hp1 (Nm.add_self (ν := νk) (o := nm) (v := u))
      obtain ⟨νf, ams', e1, e2, e3, e4, e5, e6, e7⟩ := ih (ams := hs1 ++ ams) (nm := nm + 1) (νk := νk.add nm u) (a := { a with cells := ((o, i), (putK D nm kd x).1) :: a.cells, objs := (putK D nm kd x).2 ++ a.objs }) hp2 (by omega) hlt (hfr' _) (hag' _)
        (fun j' => (h1 j').mono hadd (Sub.refl _))
        (hput.2.append (h2.mono hadd (Sub.refl _))) (fun q hq => by
          rcases List.mem_cons.1 hq with rfl | hq
          · exact ⟨putK_lk, u, hu, hput.1⟩
          · exact ⟨(h3 q hq).1, by obtain ⟨u, hu, hr⟩ := (h3 q hq).2; exact ⟨u, hu, hr.mono hadd (Sub.refl _)⟩⟩)
      refine ⟨νf, ams', hadd.trans e1, by rw [List.length_cons, ← elen]; exact e2, e3, ?_, e5, e6, e7⟩
      refine List.Perm.trans ?_ e4
      rw [← List.append_assoc]
      exact List.Perm.append_right ams List.perm_append_comm
    | obj o =>
      obtain ⟨hs1, hs2, u, rfl, hu, hp1, hp2⟩ := hp
      simp only [objLt] at hlt
      obtain ⟨ho, hlt⟩ := and_b hlt
      have ho : o < nm0 := by rw [← Nat.blt_eq]; exact ho
      have hput := put_ok (lkc := lkc) hp1 (ν := νk) (nm := o) (by rw [hag o ho]; exact hu)
      obtain ⟨νf, ams', e1, e2, e3, e4, e5, e6, e7⟩ := ih (ams := hs1 ++ ams) (nm := nm + 1) (νk := νk) (a := { a with objs := (putK D o kd x).2 ++ a.objs }) hp2 (by omega) hlt (fun o ho => hfr o (by omega)) hag h1 (hput.2.append h2) h3
      refine ⟨νf, ams', e1, by rw [List.length_cons, ← elen]; exact e2, e3, ?_, e5, e6, e7⟩
      refine List.Perm.trans ?_ e4
      rw [← List.append_assoc]
      exact List.Perm.append_right ams List.perm_append_comm
/-- What stays, as it lay when a way or a loop was entered. -/
structure RoE (D : Shp S) (ν0 νe : Nm) (ro : Ro S) (sp : Spec S) (nm : Nat) : Prop where
  dom : ∀ o v, νe o = some v → o < nm
  ext : Ext ν0 νe
  slots : ∀ j, hasN ro.lock j = true → ∃ v σ, SRep D νe σ v (ro.slots j)
  objs : ∀ q ∈ ro.objs, ∃ σ m, ORep D νe σ ro.cell q.1 q.2 m
  cells : ∀ q ∈ sp.cobj, ∀ i, i < q.2.2 → itemC sp.items q.1 i = false → ∃ v σ, SRep D νe σ v (ro.cell q.1 i)
  cobj : nodupQ (sp.cobj.map (·.1)) = true
  lt : objLt nm sp.items = true
  clt : ∀ q ∈ sp.cobj, q.1 < nm
theorem nodupQ_ok : ∀ {l : List Nat}, nodupQ l = true → l.Nodup
  | [], _ => List.nodup_nil
  | a :: l, h => by
    obtain ⟨h1, h2⟩ := and_b h
    exact List.nodup_cons.2 ⟨hasN_mem (by simpa using h1), nodupQ_ok h2⟩
theorem stillL_ok {g : Nat → Bool} : ∀ {l : List (SV S)} {k i : Nat}, stillL g k l = true → i < l.length → g (k + i) = false → l[i]? = some .lk
  | s :: l, k, i, h, hi, hg => by
    have hl : stillL g (k + 1) l = true ∧ (s = .lk ∨ g k = true) := by
      cases s <;> first | exact ⟨h, .inl rfl⟩ | exact ⟨(and_b h).2, .inr (and_b h).1⟩
    cases i with
    | zero =>
      rcases hl.2 with rfl | hk
      · rfl
      · rw [Nat.add_zero] at hg; rw [hg] at hk; cases hk
    | succ i =>
      rw [List.getElem?_cons_succ]
      exact stillL_ok hl.1 (by simpa using hi) (by rw [← hg]; congr 1; omega)
theorem mkCells_get {g : Nat → Option (SV S)} : ∀ {n k i : Nat}, i < n → (mkCells g k n)[i]? = some ((g (k + i)).getD .lk)
  | n + 1, k, 0, _ => by simp [mkCells]
  | n + 1, k, i + 1, h => by
    simp only [mkCells, List.getElem?_cons_succ]
    rw [mkCells_get (by omega)]
    congr 3; omega
theorem mkCells_len {g : Nat → Option (SV S)} : ∀ {n k : Nat}, (mkCells g k n).length = n
  | 0, _ => rfl
  | n + 1, k => by simp [mkCells, mkCells_len]
theorem resL_len {g : Nat → SV S} {l : List (SV S)} {i : Nat} : (resL g i l).length = l.length := noLk_sub
theorem resL_lk {g : Nat → SV S} : ∀ {l : List (SV S)} {k i : Nat}, l[i]? = some .lk → (resL g k l)[i]? = some (g (k + i))
  | s :: l, k, 0, h => by simp at h; subst h; simp [resL]
  | s :: l, k, i + 1, h => by
    have := resL_lk (g := g) (l := l) (k := k + 1) (i := i) (by simpa using h)
    have e : k + 1 + i = k + (i + 1) := by omega
    rw [e] at this
    cases s <;> simpa [resL] using this
theorem cellQ_ok {o i : Nat} {s : SV S} : ∀ {l : List ((Nat × Nat) × SV S)}, cellQ l o i = some s → ((o, i), s) ∈ l
  | [], h => by cases h
  | ((o', i'), s') :: l, h => by
    simp only [cellQ] at h
    cases hb : (Nat.beq o' o && Nat.beq i' i) with
    | true =>
      rw [hb] at h; cases h
      obtain ⟨h1, h2⟩ := and_b hb
      rw [Nat.eq_of_beq_eq_true h1, Nat.eq_of_beq_eq_true h2]; simp
    | false =>
      rw [hb] at h
      exact List.mem_cons_of_mem _ (cellQ_ok h)
theorem cellQ_cons {o i : Nat} {q : (Nat × Nat) × SV S} {l : List ((Nat × Nat) × SV S)} (h : cellQ l o i ≠ none) : cellQ (q :: l) o i ≠ none := by
  obtain ⟨⟨o', i'⟩, s⟩ := q
  simp only [cellQ]
  cases (Nat.beq o' o && Nat.beq i' i) with
  | true => simp
  | false => exact h
theorem putAll_keep {o i : Nat} : ∀ {l : List (Item S)} {xs : HL l} {nm : Nat} {a : Acc S}, cellQ a.cells o i ≠ none → cellQ (putAll D l xs nm a).cells o i ≠ none
  | [], _, _, _, h => h
  | (.slot j, kd) :: l, (x, _), nm, a, h => putAll_keep (l := l) (a := { a with slots := updS a.slots j (putK D nm kd x).1, objs := (putK D nm kd x).2 ++ a.objs }) h
  | (.cell o' i', kd) :: l, (x, _), nm, a, h => putAll_keep (l := l) (a := { a with cells := ((o', i'), (putK D nm kd x).1) :: a.cells, objs := (putK D nm kd x).2 ++ a.objs }) (cellQ_cons h)
  | (.obj o', kd) :: l, (x, _), _, a, h => putAll_keep (l := l) (a := { a with objs := (putK D o' kd x).2 ++ a.objs }) h
theorem putAll_cell {o i : Nat} : ∀ {l : List (Item S)} {xs : HL l} {nm : Nat} {a : Acc S}, itemC l o i = true → cellQ (putAll D l xs nm a).cells o i ≠ none
  | [], _, _, _, h => by cases h
  | (.slot j, kd) :: l, (x, xs), nm, a, h => putAll_cell (l := l) (xs := xs) (nm := nm + 1) (a := { a with slots := updS a.slots j (putK D nm kd x).1, objs := (putK D nm kd x).2 ++ a.objs }) h
  | (.cell o' i', kd) :: l, (x, xs), nm, a, h => by
    simp only [itemC] at h
    simp only [putAll]
    cases hb : (Nat.beq o' o && Nat.beq i' i) with
    | true => exact putAll_keep (l := l) (by simp [cellQ, hb])
    | false => rw [hb] at h; exact putAll_cell (l := l) h
  | (.obj o', kd) :: l, (x, xs), nm, a, h => putAll_cell (l := l) (xs := xs) (nm := nm + 1) (a := { a with objs := (putK D o' kd x).2 ++ a.objs }) h
/-- Some of the objects, in their order. -/
theorem Objs.takeR {lkc : Nat → Nat → SV S} {tlo os os' : List (Nat × AO S)} {ms : List HObj} (h : Objs D ν σ lkc (os ++ os') ms) (hn : (tlo.map (·.1)).Nodup) (hq : ∀ q ∈ tlo, findN os q.1 = some q.2) :
    ∃ ins r1 r2, ms.Perm (ins ++ (r1 ++ r2)) ∧ Objs D ν σ lkc tlo ins ∧ Objs D ν σ lkc (delNs os (tlo.map (·.1))) r1 ∧ Objs D ν σ lkc os' r2 := by
  obtain ⟨ins, rest, hp, h1, h2⟩ := h.takes hn hq
  obtain ⟨r1, r2, rfl, h3, h4⟩ := h2.split
  exact ⟨ins, r1, r2, hp, h1, h3, h4⟩
theorem endI_ok {νe : Nm} {sp : Spec S} {nm : Nat} {Y : HL sp.items → Prop} (hD : D.Ok) (hE : RoE D ν0 νe ro sp nm) (h : G D cx ν0 ro st f w ν σ ms) (hY : endI D ro sp st Y) :
    ∃ t ν' σ' ms', Y t ∧ G D cx ν0 ro (stOf D sp nm t) f w ν' σ' ms' := by
  obtain ⟨xs, st', σ', hs, ms', hK, hsl, hsub, hG, hp⟩ := getAll_ok hD (tk := []) ⟨by simpa using h.mem, h.objs, h.slots⟩ hY
  obtain ⟨hend, hK⟩ := bif_f hK
  refine ⟨xs, ?_⟩
  -- the objects with locked cells
  have hfind : ∀ q ∈ sp.cobj, ∃ l : List (SV S), findN st'.objs q.1 = some (.cells q.2.1 l) ∧ l.length = q.2.2 ∧ stillL (itemC sp.items q.1) 0 l = true := by
    intro q hq
    have := List.all_eq_true.1 hend q hq
    split at this
    case h_2 => cases this
    rename_i ty l hf
    obtain ⟨h1, h3⟩ := and_b this
    obtain ⟨h1, h2⟩ := and_b h1
    rw [Nat.eq_of_beq_eq_true h1] at hf
    exact ⟨l, hf, Nat.eq_of_beq_eq_true h2, h3⟩
  have hlist : ∃ tlo : List (Nat × AO S), tlo.map (·.1) = sp.cobj.map (·.1) ∧ ∀ q ∈ tlo, findN st'.objs q.1 = some q.2 := by
    have key : ∀ (l : List (Nat × TypeId × Nat)), (∀ q ∈ l, ∃ a, findN st'.objs q.1 = some a) → ∃ tlo : List (Nat × AO S), tlo.map (·.1) = l.map (·.1) ∧ ∀ q ∈ tlo, findN st'.objs q.1 = some q.2 := by
      intro l
      induction l with
      | nil => intro _; exact ⟨[], rfl, by simp⟩
      | cons q l ih =>
        intro hq
        obtain ⟨a, ha⟩ := hq q (by simp)
        obtain ⟨tlo, h1, h2⟩ := ih (fun q hq' => hq q (by simp [hq']))
        refine ⟨(q.1, a) :: tlo, by simp [h1], fun q' hq' => ?_⟩
        rcases List.mem_cons.1 hq' with rfl | hq'
        · exact ha
        · exact h2 q' hq'
    exact key sp.cobj fun q hq => by obtain ⟨l, hl, _⟩ := hfind q hq; exact ⟨_, hl⟩
  obtain ⟨tlo, ht1, ht2⟩ := hlist
  obtain ⟨ins, r1, r2, hperm, ho1, ho0, ho2⟩ := hG.objs.takeR (tlo := tlo) (by rw [ht1]; exact nodupQ_ok hE.cobj) ht2
  -- the names
  let νb : Nm := fun o => if o < nm then ν o else none
  obtain ⟨νf, ams', e1, e2, e3, e4, e5, e6, e7⟩ := putAll_ok (D := D) (ν := ν) (σ := σ') (f := f) (w := w) (nm0 := nm) (lkc := ro.cell) (l := sp.items) (xs := xs) (hs := hs) (ams := []) (nm := nm) (νk := νb) (a := ⟨fun _ => .dead, [], []⟩) hp (Nat.le_refl _) hE.lt
    (fun o ho => if_neg (by omega)) (fun o ho => if_pos ho) (fun j => .dead _) trivial (by simp)
  rw [List.append_nil] at e4
  have hag : ∀ o v, νe o = some v → νf o = ν o := fun o v ho => e3 o (hE.dom o v ho)
  -- memory
  have hmem : St cx w σ' (ams' ++ (ins ++ r2)) := by
    have h1 := hG.mem
    rw [List.nil_append] at h1
    have h2 := h1.perm (ms' := (ams' ++ (ins ++ r2)) ++ r1) (by
      refine (List.Perm.append e4 hperm).trans ?_
      rw [List.append_assoc, List.append_assoc]
      exact List.Perm.append_left ams' (List.Perm.append_left ins List.perm_append_comm))
    exact h2.sublist (List.sublist_append_left _ _)
  refine ⟨νf, σ', ams' ++ (ins ++ r2), hK, hmem, ?_, ?_, ?_, ?_, globMono h.glob hsub⟩
  · -- objects
    show Objs D νf σ' ro.cell (((putAll D sp.items xs nm ⟨fun _ => .dead, [], []⟩).objs ++ objsOf (putAll D sp.items xs nm ⟨fun _ => .dead, [], []⟩).cells sp.cobj) ++ ro.objs) _
    rw [List.append_assoc]
    refine e6.append (Objs.append ?_ (Objs.transfer hE.objs ho2 hag))
    have hmemi : ∀ m ∈ ins, m.ok w := fun m hm => hmem.own m (by simp [hm])
    have hcl := hE.cells
    have hclt := hE.clt
    clear hE hend hperm hmem ho0
    generalize sp.cobj = cl at hfind ht1 hcl hclt
    induction cl generalizing tlo ins with
    | nil =>
      cases tlo with
      | cons => cases ht1
      | nil =>
        cases ins with
        | nil => trivial
        | cons => exact ho1.elim
    | cons q cl ih =>
      cases tlo with
      | nil => cases ht1
      | cons q' tlo =>
        cases ins with
        | nil => exact ho1.elim
        | cons m ins =>
          injection ht1 with ht0 ht1
          obtain ⟨o, a⟩ := q'
          obtain ⟨o', ty, len⟩ := q
          simp only at ht0
          subst ht0
          refine ⟨?_, ih (ins := ins) (tlo := tlo) (ht1 := ht1) (ht2 := fun q hq => ht2 q (by simp [hq])) (ho1 := ho1.2) (hfind := fun q hq => hfind q (by simp [hq])) (hcl := fun q hq => hcl q (by simp [hq])) (hclt := fun q hq => hclt q (by simp [hq])) (hmemi := fun m hm => hmemi m (by simp [hm]))⟩
          obtain ⟨l, hl, hlen, hstill⟩ := hfind (o, ty, len) (by simp)
          have ha := ht2 (o, a) (by simp)
          simp only at ha hl hlen hstill
          rw [hl] at ha; cases ha
          obtain ⟨b, cs, hν, hm, hrow⟩ := ho1.1
          subst hm
          have hon : o < nm := hclt (o, ty, len) (by simp)
          have hcsl : cs.length = len := by rw [hrow.1, resL_len, hlen]
          have hblk := hmemi (blk b ty cs) (by simp)
          refine ⟨b, cs, by rw [e3 o hon]; exact hν, rfl, by rw [resL_len, mkCells_len, hcsl], fun j v s hj hs => ?_, hrow.2.2⟩
          have hjl : j < len := by rw [← hcsl]; exact lt_of_getq hj
          have hget := mkCells_get (g := cellQ (putAll D sp.items xs nm ⟨fun _ => .dead, [], []⟩).cells o) (k := 0) hjl
          rw [Nat.zero_add] at hget
          cases hc : cellQ (putAll D sp.items xs nm ⟨fun _ => .dead, [], []⟩).cells o j with
          | some s' =>
            rw [hc, Option.getD_some] at hget
            obtain ⟨hne, u, hu, hr⟩ := e7 _ (cellQ_ok hc)
            rw [resL_get hget hne] at hs
            cases hs
            have hcell := blk_row hblk j v hj
            rw [add_lit, Nat.zero_add] at hcell
            unfold cellV at hu
            simp only [hν] at hu
            rw [hcell] at hu; cases hu
            exact hr
          | none =>
            rw [hc, Option.getD_none] at hget
            have hitem : itemC sp.items o j = false := by
              cases hb : itemC sp.items o j with
              | false => rfl
              | true => exact absurd hc (putAll_cell hb)
            have hs' := resL_lk (g := ro.cell o) (k := 0) hget
            rw [hs'] at hs; cases hs
            rw [Nat.zero_add]
            have hlk := stillL_ok hstill (i := j) (by omega) (by rw [Nat.zero_add]; exact hitem)
            have hres := resL_lk (g := ro.cell o) (k := 0) hlk
            rw [Nat.zero_add] at hres
            obtain ⟨v1, σ1, hv1⟩ := hcl (o, ty, len) (by simp) j hjl hitem
            exact hv1.transfer (hrow.2.1 j v _ hj hres) hag
  · -- slots
    intro j
    show SRep D νf σ' (f j) (bif hasN ro.lock j then ro.slots j else (putAll D sp.items xs nm ⟨fun _ => .dead, [], []⟩).slots j)
    cases hl : hasN ro.lock j with
    | false => exact e5 j
    | true =>
      obtain ⟨v1, σ1, hv1⟩ := hE.slots j hl
      have := h.slots j
      unfold slotS at this
      rw [hl] at this
      exact hv1.transfer (this.mono (Ext.refl ν) hsub) hag
  · exact e2
  · intro o v ho
    rw [hag o v (hE.ext o v ho)]
    exact h.ext o v ho
end Go.Fx
end
section
namespace Go.Fx
open Go Go.RowKit Go.Fl Go.Fl.Lk
variable {S : Sig} {P : Program} {D : Shp S} {ν ν' ν0 : Nm} {σ τ : Hv} {n : Nat} {f : Fr}
variable {w : World} {cx : Cx} {ro : Ro S} {st : AS S} {ms : List HObj}
theorem hasN_append : ∀ {l l' : List Nat} {j : Nat}, hasN (l ++ l') j = (hasN l j || hasN l' j)
  | [], _, _ => rfl
  | a :: l, l', j => by
    simp only [List.cons_append, hasN]
    cases Nat.beq a j with
    | true => rfl
    | false => exact hasN_append
theorem hasN_of {l : List Nat} {o : Nat} (h : o ∉ l) : hasN l o = false := by
  induction l with
  | nil => rfl
  | cons a l ih =>
    simp only [hasN]
    cases hb : Nat.beq a o with
    | true => exact absurd (by rw [Nat.eq_of_beq_eq_true hb]; simp) h
    | false => exact ih fun hm => h (by simp [hm])
theorem pickN_ok : ∀ {l : List Nat} {objs r : List (Nat × AO S)}, pickN objs l = some r → r.map (·.1) = l ∧ ∀ q ∈ r, findN objs q.1 = some q.2
  | [], _, _, h => by cases h; exact ⟨rfl, by simp⟩
  | o :: l, objs, r, h => by
    simp only [pickN] at h
    split at h
    case h_2 => cases h
    rename_i a r' ha hr
    cases h
    obtain ⟨h1, h2⟩ := pickN_ok hr
    refine ⟨by simp [h1], fun q hq => ?_⟩
    rcases List.mem_cons.1 hq with rfl | hq
    · exact ha
    · exact h2 q hq
theorem findN_of_mem {α : Type} : ∀ {os : List (Nat × α)} {o : Nat} {a : α}, (os.map (·.1)).Nodup → (o, a) ∈ os → findN os o = some a
  | q :: os, o, a, hn, hm => by
    obtain ⟨o', a'⟩ := q
    rw [List.map_cons, List.nodup_cons] at hn
    simp only [findN]
    rcases List.mem_cons.1 hm with he | hm
    · cases he; simp
    · have : Nat.beq o' o = false := by
        cases hb : Nat.beq o' o with
        | false => rfl
        | true =>
          have := Nat.eq_of_beq_eq_true hb
          subst this
          exact absurd (List.mem_map.2 ⟨_, hm, rfl⟩) hn.1
      rw [this]
      exact findN_of_mem hn.2 hm
theorem delN_sub {α : Type} : ∀ {os : List (Nat × α)} {o : Nat}, (delN os o).Sublist os
  | [], _ => List.Sublist.refl _
  | (o', _) :: _, o => by
    simp only [delN]
    cases Nat.beq o' o with
    | true => exact List.sublist_cons_self _ _
    | false => exact delN_sub.cons_cons _
theorem delNs_sub {α : Type} : ∀ {tl : List Nat} {os : List (Nat × α)}, (delNs os tl).Sublist os
  | [], _ => List.Sublist.refl _
  | _ :: tl, _ => (delNs_sub (tl := tl)).trans delN_sub
/-- The condition at a way or a loop. -/
structure Chk (sp : Spec S) (ro : Ro S) (st : AS S) : Prop where
  cobj : ∀ q ∈ sp.cobj, ∃ l : List (SV S), findN st.objs q.1 = some (.cells q.2.1 l) ∧ l.length = q.2.2
  apart : ∀ q ∈ sp.cobj, q.1 ∉ sp.robj
  nodup : ((st.objs ++ ro.objs).map (·.1)).Nodup
  rnodup : sp.robj.Nodup
  cnodup : nodupQ (sp.cobj.map (·.1)) = true
  clt : ∀ q ∈ sp.cobj, q.1 < st.next
  lt : objLt st.next sp.items = true
theorem cobjQ_ok {sp : Spec S} (h : cobjQ sp ro st = true) : Chk sp ro st := by
  obtain ⟨h, h6⟩ := and_b h
  obtain ⟨h, h5⟩ := and_b h
  obtain ⟨h, h4⟩ := and_b h
  obtain ⟨h, h3⟩ := and_b h
  obtain ⟨h1, h2⟩ := and_b h
  have h1 := List.all_eq_true.1 h1
  refine ⟨fun q hq => ?_, fun q hq => ?_, nodupQ_ok h2, nodupQ_ok h3, h4, fun q hq => ?_, h6⟩
  · obtain ⟨ha, _⟩ := and_b (h1 q hq)
    split at ha
    case h_2 => cases ha
    rename_i ty l hf
    obtain ⟨ha, hb⟩ := and_b ha
    exact ⟨l, by rw [hf, Nat.eq_of_beq_eq_true ha], Nat.eq_of_beq_eq_true hb⟩
  · obtain ⟨_, hb⟩ := and_b (h1 q hq)
    exact hasN_mem (by simpa using hb)
  · have := List.all_eq_true.1 h5 q hq
    rw [← Nat.blt_eq]; exact this
theorem hasC_iff : ∀ {l : List (Nat × TypeId × Nat)} {o : Nat}, hasC l o = true ↔ ∃ q ∈ l, q.1 = o
  | [], o => by simp [hasC]
  | (o', ty, len) :: l, o => by
    simp only [hasC]
    cases hb : Nat.beq o' o with
    | true =>
      have := Nat.eq_of_beq_eq_true hb
      subst this
      simp
    | false =>
      rw [cond_false, hasC_iff]
      constructor
      · rintro ⟨q, hq, rfl⟩; exact ⟨q, by simp [hq], rfl⟩
      · rintro ⟨q, hq, rfl⟩
        rcases List.mem_cons.1 hq with rfl | hq
        · simp at hb
        · exact ⟨q, hq, rfl⟩
def res1 (x : SV S) : SV S → SV S
  | .lk => x
  | s => s
theorem resL_cons {g : Nat → SV S} {k : Nat} {s : SV S} {l : List (SV S)} : resL g k (s :: l) = res1 (g k) s :: resL g (k + 1) l := by cases s <;> rfl
theorem lockL_res {g h : Nat → SV S} {p : Nat → Bool} : ∀ {l : List (SV S)} {k : Nat}, (∀ i s, (resL h k l)[i]? = some s → g (k + i) = s) → resL g k (lockL l p k) = resL h k l
  | [], _, _ => rfl
  | s :: l, k, hg => by
    have h0 := hg 0 (res1 (h k) s) (by rw [resL_cons]; rfl)
    rw [Nat.add_zero] at h0
    have ih := lockL_res (g := g) (h := h) (p := p) (l := l) (k := k + 1) (fun i s' hi => by
      have := hg (i + 1) s' (by rw [resL_cons]; exact hi)
      rw [← this]; congr 1; omega)
    simp only [lockL]
    rw [resL_cons, resL_cons, ih]
    congr 1
    cases p k with
    | true => simp only [cond_true]; cases s <;> first | rfl | exact h0
    | false => exact h0
/-- Into a way or a loop. -/
theorem G.enter {sp : Spec S} {robj : List (Nat × AO S)} (h : G D cx ν0 ro st f w ν σ ms) (hc : Chk sp ro st) (hr : pickN st.objs sp.robj = some robj) :
    ∃ ms', G D cx ν0 (roOf sp ro st robj) { slots := st.slots, objs := lockObjs sp (delNs st.objs sp.robj), next := st.next } f w ν σ ms' := by
  obtain ⟨hr1, hr2⟩ := pickN_ok hr
  obtain ⟨ins, r1, r2, hp, ho1, ho2, ho3⟩ := h.objs.takeR (tlo := robj) (by rw [hr1]; exact hc.rnodup) hr2
  rw [hr1] at ho2
  have hnd : (st.objs.map (·.1)).Nodup := by
    have := hc.nodup
    rw [List.map_append] at this
    exact (List.nodup_append.1 this).1
  have hdis : ∀ o ∈ st.objs.map (·.1), ∀ o' ∈ ro.objs.map (·.1), o ≠ o' := by
    have := hc.nodup
    rw [List.map_append] at this
    exact (List.nodup_append.1 this).2.2
  -- cells elsewhere are as they were
  have hcell : ∀ o, hasC sp.cobj o = false → (roOf sp ro st robj).cell o = ro.cell o := by
    intro o ho
    funext i
    simp only [roOf, ho, cond_false]
  have hstay : ∀ {os : List (Nat × AO S)} {ms : List HObj}, (∀ q ∈ os, hasC sp.cobj q.1 = false) → Objs D ν σ ro.cell os ms → Objs D ν σ (roOf sp ro st robj).cell os ms := by
    intro os
    induction os with
    | nil => intro ms _ ho; cases ms with | nil => trivial | cons => exact ho.elim
    | cons q os ih =>
      intro ms hq ho
      cases ms with
      | nil => exact ho.elim
      | cons m ms =>
        refine ⟨?_, ih (fun q' hq' => hq q' (by simp [hq'])) ho.2⟩
        obtain ⟨o, a⟩ := q
        have hoa := ho.1
        cases a with
        | cells ty l =>
          obtain ⟨b, cs, e1, e2, e3⟩ := hoa
          refine ⟨b, cs, e1, e2, ?_⟩
          rw [hcell o (hq (o, .cells ty l) (by simp))]
          exact e3
        | vec e T l => exact hoa
        | frz T l => exact hoa
        | arr ty T N l => exact hoa
        | map K V F => exact hoa
        | iter K V F done cur => exact hoa
        | siter s pos => exact hoa
  refine ⟨r1 ++ (ins ++ r2), h.mem.perm (hp.trans (by
    rw [← List.append_assoc, ← List.append_assoc]
    exact List.Perm.append_right r2 List.perm_append_comm)), ?_, fun j => ?_, h.fresh, h.ext, h.glob⟩
  · refine Objs.append (os' := robj ++ ro.objs) ?_ (Objs.append (hstay (fun q hq => ?_) ho1) (hstay (fun q hq => ?_) ho3))
    · -- the objects of the state
      have hsub : ∀ q ∈ delNs st.objs sp.robj, findN st.objs q.1 = some q.2 := fun q hq => findN_of_mem hnd (delNs_sub.subset hq)
      clear hp
      generalize delNs st.objs sp.robj = os at ho2 hsub
      induction os generalizing r1 with
      | nil => cases r1 with | nil => trivial | cons => exact ho2.elim
      | cons q os ih =>
        cases r1 with
        | nil => exact ho2.elim
        | cons m r1 =>
          obtain ⟨o, a⟩ := q
          have hoa := ho2.1
          have hfind := hsub (o, a) (by simp)
          have hih := ih r1 ho2.2 (fun q hq => hsub q (by simp [hq]))
          cases a with
          | cells ty l =>
            simp only [lockObjs]
            refine ⟨?_, hih⟩
            obtain ⟨b, cs, e1, e2, e3⟩ := hoa
            cases hb : hasC sp.cobj o with
            | false =>
              refine ⟨b, cs, e1, e2, ?_⟩
              rw [hcell o hb]; exact e3
            | true =>
              refine ⟨b, cs, e1, e2, ?_⟩
              have : resL ((roOf sp ro st robj).cell o) 0 (lockL l (itemC sp.items o) 0) = resL (ro.cell o) 0 l := by
                refine lockL_res fun i s hi => ?_
                simp only at hfind
                simp only [roOf, hb, cond_true, hfind, Nat.zero_add, List.getD_eq_getElem?_getD, hi, Option.getD_some]
              rw [this]; exact e3
          | vec e T l => exact ⟨hoa, hih⟩
          | frz T l => exact ⟨hoa, hih⟩
          | arr ty T N l => exact ⟨hoa, hih⟩
          | map K V F => exact ⟨hoa, hih⟩
          | iter K V F done cur => exact ⟨hoa, hih⟩
          | siter s pos => exact ⟨hoa, hih⟩
    · cases hb : hasC sp.cobj q.1 with
      | false => rfl
      | true =>
        obtain ⟨q', hq', he⟩ := hasC_iff.1 hb
        exact absurd (by rw [he, ← hr1]; exact List.mem_map.2 ⟨q, hq, rfl⟩) (hc.apart q' hq')
    · cases hb : hasC sp.cobj q.1 with
      | false => rfl
      | true =>
        obtain ⟨q', hq', he⟩ := hasC_iff.1 hb
        obtain ⟨l, hl, _⟩ := hc.cobj q' hq'
        exact absurd he (hdis _ (List.mem_map.2 ⟨_, findN_mem hl, rfl⟩) _ (List.mem_map.2 ⟨q, hq, rfl⟩))
  · have : slotS (roOf sp ro st robj) { slots := st.slots, objs := lockObjs sp (delNs st.objs sp.robj), next := st.next } j = slotS ro st j := by
      unfold slotS roOf
      simp only [hasN_append]
      cases h1 : hasN ro.lock j <;> cases h2 : hasN sp.lock j <;> simp [slotS, h1]
    rw [this]; exact h.slots j
theorem lockObjs_find {sp : Spec S} : ∀ {os : List (Nat × AO S)} {o : Nat} {ty : TypeId} {l : List (SV S)}, findN os o = some (.cells ty l) → hasC sp.cobj o = true → findN (lockObjs sp os) o = some (.cells ty (lockL l (itemC sp.items o) 0))
  | (o', a) :: os, o, ty, l, h, hc => by
    simp only [findN] at h
    cases hb : Nat.beq o' o with
    | true =>
      rw [hb] at h; cases h
      have := Nat.eq_of_beq_eq_true hb
      subst this
      simp [lockObjs, findN, hc]
    | false =>
      rw [hb] at h
      have ih := lockObjs_find (sp := sp) (os := os) h hc
      cases a <;> simp [lockObjs, findN, hb, ih]
theorem lockL_get {p : Nat → Bool} : ∀ {l : List (SV S)} {k i : Nat}, i < l.length → p (k + i) = false → (lockL l p k)[i]? = some .lk
  | s :: l, k, 0, _, hp => by rw [Nat.add_zero] at hp; simp [lockL, hp]
  | s :: l, k, i + 1, h, hp => by
    simp only [lockL, List.getElem?_cons_succ]
    exact lockL_get (by simpa using h) (by rw [← hp]; congr 1; omega)
theorem lockL_len {p : Nat → Bool} : ∀ {l : List (SV S)} {k : Nat}, (lockL l p k).length = l.length
  | [], _ => rfl
  | s :: l, k => by simp [lockL, lockL_len]
/-- What stays is known at the entry. -/
theorem G.roE {sp : Spec S} {robj : List (Nat × AO S)} (hc : Chk sp ro st) (h : G D cx ν0 (roOf sp ro st robj) { slots := st.slots, objs := lockObjs sp (delNs st.objs sp.robj), next := st.next } f w ν σ ms) :
    RoE D ν0 ν (roOf sp ro st robj) sp st.next := by
  refine ⟨fun o v hv => ?_, h.ext, fun j hj => ?_, fun q hq => ?_, fun q hq i hi hit => ?_, hc.cnodup, hc.lt, hc.clt⟩
  · rcases Nat.lt_or_ge o st.next with hlt | hge
    · exact hlt
    · have := h.fresh o hge
      rw [hv] at this; cases this
  · have := h.slots j
    unfold slotS at this
    rw [hj] at this
    exact ⟨_, _, this⟩
  · obtain ⟨m1, m2, rfl, h1, h2⟩ := h.objs.split
    obtain ⟨m, hm⟩ := h2.mem (o := q.1) (a := q.2) hq
    exact ⟨σ, m, hm⟩
  · obtain ⟨l, hl, hlen⟩ := hc.cobj q hq
    have hf : findN (delNs st.objs sp.robj) q.1 = some (.cells q.2.1 l) := by rw [findN_dels (hc.apart q hq)]; exact hl
    have hf2 := lockObjs_find (sp := sp) hf (hasC_iff.2 ⟨q, hq, rfl⟩)
    obtain ⟨m, hm, b, cs, _, _, hrow⟩ := h.objs.find (o := q.1) (by rw [findN_append, hf2])
    have hg := lockL_get (p := itemC sp.items q.1) (l := l) (k := 0) (i := i) (by omega) (by rw [Nat.zero_add]; exact hit)
    have hres := resL_lk (g := (roOf sp ro st robj).cell q.1) (k := 0) hg
    rw [Nat.zero_add] at hres
    obtain ⟨v, hv⟩ := getq (l := cs) (k := i) (by rw [hrow.1, resL_len, lockL_len]; omega)
    exact ⟨v, σ, hrow.2.1 i v _ hv hres⟩
theorem unlock_res {g h : Nat → SV S} : ∀ {l l0 : List (SV S)} {k : Nat}, (∀ i, g (k + i) = (resL h k l0).getD i .dead) → resL h k (unlockL l l0) = resL g k l
  | [], _, _, _ => rfl
  | s :: l, l0, k, hg => by
    have ht : ∀ i, g (k + 1 + i) = (resL h (k + 1) l0.tail).getD i .dead := by
      intro i
      have := hg (i + 1)
      have e : k + (i + 1) = k + 1 + i := by omega
      rw [e] at this
      rw [this]
      cases l0 with
      | nil => simp [resL]
      | cons x l0 => cases x <;> simp [resL]
    have ih := unlock_res (l := l) ht
    have h0 : g k = res1 (h k) (l0.head?.getD .dead) := by
      have := hg 0
      rw [Nat.add_zero] at this
      rw [this]
      cases l0 with
      | nil => rfl
      | cons x l0 => rw [resL_cons]; rfl
    cases s with
    | lk =>
      simp only [unlockL]
      rw [resL_cons, ih, ← h0]; rfl
    | _ => simp only [unlockL, resL]; rw [ih]
/-- Out of a way or a loop. -/
theorem G.leave {sp : Spec S} {robj : List (Nat × AO S)} {a : AS S} (hc : Chk sp ro st) (hr : pickN st.objs sp.robj = some robj) (h : G D cx ν0 (roOf sp ro st robj) a f w ν σ ms) : G D cx ν0 ro (merge sp st robj a) f w ν σ ms := by
  obtain ⟨hr1, hr2⟩ := pickN_ok hr
  have hcell : ∀ o, hasC sp.cobj o = false → (roOf sp ro st robj).cell o = ro.cell o := by
    intro o ho
    funext i
    simp only [roOf, ho, cond_false]
  have hstay : ∀ {os : List (Nat × AO S)} {ms : List HObj}, (∀ q ∈ os, hasC sp.cobj q.1 = false) → Objs D ν σ (roOf sp ro st robj).cell os ms → Objs D ν σ ro.cell os ms := by
    intro os
    induction os with
    | nil => intro ms _ ho; cases ms with | nil => trivial | cons => exact ho.elim
    | cons q os ih =>
      intro ms hq ho
      cases ms with
      | nil => exact ho.elim
      | cons m ms =>
        refine ⟨?_, ih (fun q' hq' => hq q' (by simp [hq'])) ho.2⟩
        obtain ⟨o, a⟩ := q
        have hoa := ho.1
        cases a with
        | cells ty l =>
          obtain ⟨b, cs, e1, e2, e3⟩ := hoa
          refine ⟨b, cs, e1, e2, ?_⟩
          rw [← hcell o (hq (o, .cells ty l) (by simp))]
          exact e3
        | vec e T l => exact hoa
        | frz T l => exact hoa
        | arr ty T N l => exact hoa
        | map K V F => exact hoa
        | iter K V F done cur => exact hoa
        | siter s pos => exact hoa
  have hdis : ∀ o ∈ st.objs.map (·.1), ∀ o' ∈ ro.objs.map (·.1), o ≠ o' := by
    have := hc.nodup
    rw [List.map_append] at this
    exact (List.nodup_append.1 this).2.2
  obtain ⟨m1, m2, rfl, h1, h2⟩ := h.objs.split
  refine ⟨h.mem, ?_, fun j => ?_, h.fresh, h.ext, h.glob⟩
  · show Objs D ν σ ro.cell ((unlock sp st a.objs ++ robj) ++ ro.objs) (m1 ++ m2)
    rw [List.append_assoc]
    refine Objs.append ?_ (hstay (fun q hq => ?_) h2)
    · have ha := h1
      generalize a.objs = os at ha
      clear h h1 h2
      induction os generalizing m1 with
      | nil => cases m1 with | nil => trivial | cons => exact ha.elim
      | cons q os ih =>
        cases m1 with
        | nil => exact ha.elim
        | cons m m1 =>
          obtain ⟨o, ao⟩ := q
          have hih := ih m1 ha.2
          have hoa := ha.1
          cases ao with
          | cells ty l =>
            simp only [unlock]
            refine ⟨?_, hih⟩
            obtain ⟨b, cs, e1, e2, e3⟩ := hoa
            cases hb : hasC sp.cobj o with
            | false =>
              refine ⟨b, cs, e1, e2, ?_⟩
              rw [← hcell o hb]; exact e3
            | true =>
              refine ⟨b, cs, e1, e2, ?_⟩
              rw [unlock_res (g := (roOf sp ro st robj).cell o)]
              · exact e3
              · intro i
                rw [Nat.zero_add]
                obtain ⟨q', hq', rfl⟩ := hasC_iff.1 hb
                obtain ⟨l', hl', _⟩ := hc.cobj q' hq'
                simp only [roOf, hb, cond_true, hl']
          | vec e T l => exact ⟨hoa, hih⟩
          | frz T l => exact ⟨hoa, hih⟩
          | arr ty T N l => exact ⟨hoa, hih⟩
          | map K V F => exact ⟨hoa, hih⟩
          | iter K V F done cur => exact ⟨hoa, hih⟩
          | siter s pos => exact ⟨hoa, hih⟩
    · cases hb : hasC sp.cobj q.1 with
      | false => rfl
      | true =>
        obtain ⟨q', hq', he⟩ := hasC_iff.1 hb
        rcases List.mem_append.1 hq with hq | hq
        · exact absurd (by rw [he, ← hr1]; exact List.mem_map.2 ⟨q, hq, rfl⟩) (hc.apart q' hq')
        · obtain ⟨l, hl, _⟩ := hc.cobj q' hq'
          exact absurd he (hdis _ (List.mem_map.2 ⟨_, findN_mem hl, rfl⟩) _ (List.mem_map.2 ⟨q, hq, rfl⟩))
  · have : slotS ro (merge sp st robj a) j = slotS (roOf sp ro st robj) a j := by
      unfold slotS merge roOf
      simp only [hasN_append]
      cases h1 : hasN ro.lock j <;> cases h2 : hasN sp.lock j <;> simp [slotS, h1]
    rw [this]; exact h.slots j
theorem G.drew (h : G D cx ν0 ro st f w ν σ ms) : G D cx ν0 ro st f w.drew ν σ ms := ⟨h.mem.drew, h.objs, h.slots, h.fresh, h.ext, h.glob⟩
theorem LpG_H : ∀ {l : List (Item S)} {body : HL l → (HL l → Prop) → Prop} {t : HL l}, LpG l body t → LpH body t
  | [], _, _, h => h
  | [_], _, _, h => fun X hX => h (fun x => X (x, ())) fun x _ hY hb => hX (x, ()) _ (fun u hu => hY u.1 hu) hb
  | [_, _], _, _, h => fun X hX => h (fun x y => X (x, y, ())) fun x y _ hY hb => hX (x, y, ()) _ (fun u hu => hY u.1 u.2.1 hu) hb
  | [_, _, _], _, _, h => fun X hX => h (fun x y z => X (x, y, z, ())) fun x y z _ hY hb => hX (x, y, z, ()) _ (fun u hu => hY u.1 u.2.1 u.2.2.1 hu) hb
  | [_, _, _, _], _, _, h => fun X hX => h (fun x y z v => X (x, y, z, v, ())) fun x y z v _ hY hb => hX (x, y, z, v, ()) _ (fun u hu => hY u.1 u.2.1 u.2.2.1 u.2.2.2.1 hu) hb
  | [_, _, _, _, _], _, _, h => fun X hX => h (fun x y z v w => X (x, y, z, v, w, ())) fun x y z v w _ hY hb => hX (x, y, z, v, w, ()) _ (fun u hu => hY u.1 u.2.1 u.2.2.1 u.2.2.2.1 u.2.2.2.2.1 hu) hb
  | _ :: _ :: _ :: _ :: _ :: _ :: _, _, _, h => h
theorem JnG_H : ∀ {l : List (Item S)} {k : HL l → Prop} {A : (HL l → Prop) → Prop}, JnG l k A → ∃ Y : HL l → Prop, (∀ t, Y t → k t) ∧ A Y
  | [], _, _, h => by obtain ⟨Y, h1, h2⟩ := h; exact ⟨_, fun _ hy => h1 hy, h2⟩
  | [_], _, _, h => by obtain ⟨Y, h1, h2⟩ := h; exact ⟨_, fun t hy => h1 t.1 hy, h2⟩
  | [_, _], _, _, h => by obtain ⟨Y, h1, h2⟩ := h; exact ⟨_, fun t hy => h1 t.1 t.2.1 hy, h2⟩
  | [_, _, _], _, _, h => by obtain ⟨Y, h1, h2⟩ := h; exact ⟨_, fun t hy => h1 t.1 t.2.1 t.2.2.1 hy, h2⟩
  | [_, _, _, _], _, _, h => by obtain ⟨Y, h1, h2⟩ := h; exact ⟨_, fun t hy => h1 t.1 t.2.1 t.2.2.1 t.2.2.2.1 hy, h2⟩
  | _ :: _ :: _ :: _ :: _ :: _, _, _, h => h
/-- A round and all that follow. -/
def Rounds (P : Program) (c : Code) (Q : Exit → Act → World → Prop) (a : Act) (w : World) : Prop :=
  ∀ (b : Frame) (k : List Go.Item) (cs : List Frame), ∃ e a' w', Q e a' w' ∧ Arrives P (lone (b.at a (.code c :: .inLoop c :: k)) cs w) b k cs e a' w'
theorem rounds_loop {P : Program} {c : Code} {Q : Exit → Act → World → Prop} {a : Act} {w : World} (h : Rounds P c Q a w) : (Code.loop c).wp P Q a w := by
  intro b k cs
  obtain ⟨e, a₁, w₁, hq, harr⟩ := h b k cs
  exact ⟨e, a₁, w₁, hq, .of_steps (.one step_loop) harr⟩
theorem rounds_next {P : Program} {c : Code} {Q : Exit → Act → World → Prop} {a : Act} {w : World} (h : c.wp P (Exit.then (Rounds P c Q) Q) a w) : Rounds P c Q a w := by
  intro b k cs
  obtain ⟨e, a₁, w₁, hq, harr⟩ := h b (.inLoop c :: k) cs
  cases e with
  | normal =>
    obtain ⟨e₂, a₂, w₂, hq₂, harr₂⟩ := hq b k cs
    exact ⟨e₂, a₂, w₂, hq₂, .of_steps (Steps.trans harr (.one step_inLoop)) harr₂⟩
  | exit id => exact ⟨_, a₁, w₁, hq, .pass (x := .inLoop c) rfl (fun _ _ => .inl (by simp)) harr⟩
  | goto l => exact ⟨_, a₁, w₁, hq, .pass (x := .inLoop c) rfl (fun _ _ => .inl (by simp)) harr⟩
  | ret => exact ⟨_, a₁, w₁, hq, .pass (x := .inLoop c) rfl (fun _ _ => .inl (by simp)) harr⟩
  | panic ch => exact ⟨_, a₁, w₁, hq, .pass (x := .inLoop c) rfl (fun _ _ => .inl (by simp)) harr⟩
  | outgrown => exact ⟨_, a₁, w₁, hq, .pass (x := .inLoop c) rfl (fun _ _ => .inl (by simp)) harr⟩
theorem planK_some {key : Nat} {o : Option (List (Nat × AO S))} {k : List (Nat × AO S) → Prop} (h : planK key ro st o k) : ∃ x, o = some x ∧ k x := by
  cases o with
  | some x => exact ⟨x, rfl, h⟩
  | none => exact h.elim
/-- Code does what its plain meaning says. -/
theorem vc_ok {E : Ev S} {inlh : InlH S} {C : Ro S → Prop} (hC : ∀ sp ro st robj, C (roOf sp ro st robj)) (hP : E.D.OkP E.P) (hmix : E.P.follows .mixedOrders = true) (hst : StH E inlh n C) : ∀ {c : Code} {ro : Ro S} {k : Kc S} {st : AS S} {f : Fr} {w : World} {ν : Nm} {σ : Hv} {ms : List HObj} {Q : Exit → Act → World → Prop},
    C ro → vcC E inlh n c ro k st → G E.D cx ν0 ro st f w ν σ ms → (∀ c a w, ¬ Q (.panic c) a w) → (∀ e st' f' w' ν' σ' ms', k e st' → G E.D cx ν0 ro st' f' w' ν' σ' ms' → Q e (mk n f') w') → c.wp E.P Q (mk n f) w := by
  intro c
  induction c with
  | skip => intro ro k st f w ν σ ms Q hro h hG _ hk; exact wp_skip (hk _ _ _ _ _ _ _ h hG)
  | region id ops draw =>
    intro ro k st f w ν σ ms Q hro h hG hQ hk
    simp only [vcC] at h
    cases draw with
    | false => exact wp_region_list (ops_ok hst hro h hG fun st' f' w' ν' σ' ms' hk' hG' => hk _ _ _ _ _ _ _ hk' hG')
    | true =>
      obtain ⟨hsel, h⟩ := bif_f h
      have := draw_ok (Q := Q) hP hst hro hsel hQ h hG.drew fun st' f' w' ν' σ' ms' hk' hG' => hk _ _ _ _ _ _ _ hk' hG'
      rw [← bt_zero] at this
      exact wp_region_any hmix (wpK_any _ _ _ _ _ this)
  | seq x y ihx ihy =>
    intro ro k st f w ν σ ms Q hro h hG hQ hk
    simp only [vcC] at h
    refine wp_seq ?_
    split at h
    · refine ihx hro h hG (fun c a w => hQ c a w) fun e st' f' w' ν' σ' ms' hk' hG' => ?_
      cases e with
      | normal => exact ihy hro hk' hG' hQ hk
      | _ => exact hk _ _ _ _ _ _ _ hk' hG'
    · rename_i sp _
      obtain ⟨robj, hr, h⟩ := planK_some h
      obtain ⟨hc, h⟩ := bif_f h
      have hc := cobjQ_ok hc
      obtain ⟨Y, hY, hA⟩ := JnG_H h
      obtain ⟨ms1, hG1⟩ := hG.enter hc hr
      have hE := hG1.roE hc
      refine ihx (hC _ _ _ _) hA hG1 (fun c a w => hQ c a w) fun e st' f' w' ν' σ' ms' hk' hG' => ?_
      cases e with
      | normal =>
        obtain ⟨t, ν2, σ2, ms2, ht, hG2⟩ := endI_ok hP.ok hE hG' hk'
        exact ihy hro (hY t ht) (hG2.leave hc hr) hQ hk
      | _ => exact hk _ _ _ _ _ _ _ hk' (hG'.leave hc hr)
  | cond c x y ihx ihy =>
    intro ro k st f w ν σ ms Q hro h hG hQ hk
    simp only [vcC] at h
    obtain ⟨b, hb, h⟩ := tst_ok (ev_ok (n := n) hG.slots hG.glob c) h
    rcases h with ⟨rfl, h⟩ | ⟨rfl, h⟩
    · exact wp_cond_true (by rw [eval_mk]; exact hb) (ihx hro h hG hQ hk)
    · exact wp_cond_false (by rw [eval_mk]; exact hb) (ihy hro h hG hQ hk)
  | block id b ih =>
    intro ro k st f w ν σ ms Q hro h hG hQ hk
    refine wp_block (ih hro h hG (fun c a w => hQ c a w) fun e st' f' w' ν' σ' ms' hk' hG' => ?_)
    cases e with
    | exit i =>
      simp only [blockK] at hk'
      simp only [Exit.inBlock]
      cases hb : Nat.beq i id with
      | true =>
        rw [hb] at hk'
        rw [if_pos (Nat.eq_of_beq_eq_true hb)]
        exact hk _ _ _ _ _ _ _ hk' hG'
      | false =>
        rw [hb] at hk'
        rw [if_neg (fun he => by subst he; simp at hb)]
        exact hk _ _ _ _ _ _ _ hk' hG'
    | _ => exact hk _ _ _ _ _ _ _ hk' hG'
  | loop b ih =>
    intro ro k st f w ν σ ms Q hro h hG hQ hk
    simp only [vcC] at h
    split at h
    · exact h.elim
    · rename_i sp _
      obtain ⟨robj, hr, h⟩ := planK_some h
      obtain ⟨hc, h⟩ := bif_f h
      have hc := cobjQ_ok hc
      obtain ⟨ms1, hG1⟩ := hG.enter hc hr
      have hE := hG1.roE hc
      obtain ⟨t0, ν2, σ2, ms2, hL, hG2⟩ := endI_ok hP.ok hE hG1 h
      have hL := LpG_H hL
      refine rounds_loop (hL (fun t => ∀ f w ν σ ms, G E.D cx ν0 (roOf sp ro st robj) (stOf E.D sp st.next t) f w ν σ ms → Rounds E.P b Q (mk n f) w) (fun t Y hYX hb f w ν σ ms hG => ?_) f w ν2 σ2 ms2 hG2)
      refine rounds_next (ih (hC _ _ _ _) hb hG (fun c a w => hQ c a w) fun e st' f' w' ν' σ' ms' hk' hG' => ?_)
      cases e with
      | normal =>
        obtain ⟨t', ν3, σ3, ms3, ht, hG3⟩ := endI_ok hP.ok hE hG' hk'
        exact hYX t' ht f' w' ν3 σ3 ms3 hG3
      | _ => exact hk _ _ _ _ _ _ _ hk' (hG'.leave hc hr)
  | exit i => intro ro k st f w ν σ ms Q hro h hG _ hk; exact wp_exit (hk _ _ _ _ _ _ _ h hG)
  | scope b ih =>
    intro ro k st f w ν σ ms Q hro h hG hQ hk
    refine wp_scope_straight (ih hro h hG (fun c a w => hQ c a w) fun e st' f' w' ν' σ' ms' hk' hG' => ?_)
    cases e with
    | goto l => exact hk'.elim
    | _ => exact hk _ _ _ _ _ _ _ hk' hG'
  | ret => intro ro k st f w ν σ ms Q hro h hG _ hk; exact wp_ret (hk _ _ _ _ _ _ _ h hG)
  | _ => intro ro k st f w ν σ ms Q hro h; exact h.elim
end Go.Fx
end
section
namespace Go.Fx
open Go Go.RowKit Go.Fl Go.Fl.Lk
variable {S : Sig} {P : Program} {D : Shp S} {ν ν' ν0 : Nm} {σ τ : Hv} {n : Nat} {f : Fr}
variable {w : World} {cx : Cx} {ro : Ro S} {st : AS S} {ms : List HObj} {ob : Nat → Option (AO S)} {lkc : Nat → Nat → SV S} {oh : Nat → HObj}
mutual
inductive Lay (D : Shp S) (σ : Hv) : Tr S → Value → List HObj → Prop
  | f {x : FV S} {v : Value} (h : RepF D σ v x) : Lay D σ (.f x) v []
  | vec {e : TypeId} {T : S.C} {l : List (S.car T)} {v : Value} {xs : List Value} (h : Els D σ T xs l) (hl : l.length ≤ 140737488355328) (h1 : v.oneCell' = true) : Lay D σ (.vec e T l) v [vec v e (D.size T) l.length xs]
  | arr {T : S.C} {N : Nat} {l : List (S.car T)} {cs : List Value} (hN : l.length = N) (h : Els D σ T cs l) : Lay D σ (.arr T N l) (.agg cs.toArray) []
  | map {K V : S.C} {F : S.car K → Option (S.car V)} {b : Nat} {m : S.car K → Option Value} (h : ∀ k, ORel (ElV D σ V) (m k) (F k)) : Lay D σ (.map K V F) (.map (some b)) [smapK (kenc D K) b m]
  | ptr {ty : TypeId} {ts : List (Tr S)} {b : Nat} {cs : List Value} {ms : List HObj} (h : LayL D σ ts cs ms) (h1 : ∀ v ∈ cs, v.oneCell' = true) : Lay D σ (.ptr ty ts) (.pointer (some ⟨b, 0, none⟩)) (blk b ty cs :: ms)
  | agg {ts : List (Tr S)} {cs : List Value} {ms : List HObj} (h : LayL D σ ts cs ms) (h1 : ∀ v ∈ cs, v.oneCell' = true) : Lay D σ (.agg ts) (.agg cs.toArray) ms
  | el {T : S.C} {x : S.car T} {cs : List Value} (h : RowF D σ cs (D.shape T x)) : Lay D σ (.el T x) (.agg cs.toArray) []
inductive LayL (D : Shp S) (σ : Hv) : List (Tr S) → List Value → List HObj → Prop
  | nil : LayL D σ [] [] []
  | cons {t : Tr S} {ts : List (Tr S)} {v : Value} {vs : List Value} {ms ms' : List HObj} (h : Lay D σ t v ms) (h' : LayL D σ ts vs ms') : LayL D σ (t :: ts) (v :: vs) (ms ++ ms')
end
mutual
inductive LayB (D : Shp S) (σ : Hv) : Tr S → Tr S → Value → List HObj → Value → List HObj → Prop
  | same {t : Tr S} {v0 v1 : Value} {m0 : List HObj} (h : Lay D σ t v1 []) : LayB D σ t .same v0 m0 v1 []
  | v {t t' : Tr S} {v0 v1 : Value} {m0 : List HObj} (h : Lay D σ t' v1 []) : LayB D σ t t' v0 m0 v1 []
  | vec {t : Tr S} {v0 v1 : Value} {m0 : List HObj} {e : TypeId} {T : S.C} {l : List (S.car T)} {xs : List Value} (h : Els D σ T xs l) (hl : l.length ≤ 140737488355328) (h1 : v1.oneCell' = true) : LayB D σ t (.vec e T l) v0 m0 v1 [vec v1 e (D.size T) l.length xs]
  | map {t : Tr S} {K V : S.C} {F : S.car K → Option (S.car V)} {b : Nat} {m : S.car K → Option Value} {m0 : List HObj} (h : ∀ k, ORel (ElV D σ V) (m k) (F k)) : LayB D σ t (.map K V F) (.map (some b)) m0 (.map (some b)) [smapK (kenc D K) b m]
  | ptr {ty0 ty : TypeId} {ts0 ts : List (Tr S)} {b : Nat} {cs0 cs : List Value} {m0 ms : List HObj} (h : LayBL D σ ts0 ts cs0 m0 cs ms) (h1 : ∀ v ∈ cs, v.oneCell' = true) : LayB D σ (.ptr ty0 ts0) (.ptr ty ts) (.pointer (some ⟨b, 0, none⟩)) (blk b ty0 cs0 :: m0) (.pointer (some ⟨b, 0, none⟩)) (blk b ty cs :: ms)
inductive LayBL (D : Shp S) (σ : Hv) : List (Tr S) → List (Tr S) → List Value → List HObj → List Value → List HObj → Prop
  | nil : LayBL D σ [] [] [] [] [] []
  | cons {t0 t : Tr S} {ts0 ts : List (Tr S)} {v0 v : Value} {vs0 vs : List Value} {a0 a m0 m : List HObj} (h : LayB D σ t0 t v0 a0 v a) (h' : LayBL D σ ts0 ts vs0 m0 vs m) : LayBL D σ (t0 :: ts0) (t :: ts) (v0 :: vs0) (a0 ++ m0) (v :: vs) (a ++ m)
end
/-- What comes back through the arguments. -/
inductive LayT (D : Shp S) (σ : Hv) : List (Tr S) → List (Tr S) → List Value → List HObj → List HObj → Prop
  | nil : LayT D σ [] [] [] [] []
  | skip {t0 : Tr S} {ts0 ts : List (Tr S)} {v0 : Value} {vs : List Value} {a0 m0 m : List HObj} (h' : LayT D σ ts0 ts vs m0 m) : LayT D σ (t0 :: ts0) (.same :: ts) (v0 :: vs) (a0 ++ m0) m
  | keep {t0 t : Tr S} {ts0 ts : List (Tr S)} {v0 : Value} {vs : List Value} {a0 a m0 m : List HObj} (h : LayB D σ t0 t v0 a0 v0 a) (h' : LayT D σ ts0 ts vs m0 m) : LayT D σ (t0 :: ts0) (t :: ts) (v0 :: vs) (a0 ++ m0) (a ++ m)
/-! What hangs on no memory lies so in every memory. -/
theorem RepF.flat {x : FV S} {v : Value} (h : RepF D σ v x) (hf : flatV x = true) : RepF D τ v x := by
  cases h with
  | sl => cases hf
  | bool b => exact .bool b
  | int k n => exact .int k n
  | str s => exact .str s
  | nils => exact .nils
  | nilp => exact .nilp
  | nilm => exact .nilm
  | nilf => exact .nilf
  | ifcN => exact .ifcN
  | ifcS t p => exact .ifcS t p
theorem RowF.flat {cs : List Value} {ss : List (FV S)} (h : RowF D σ cs ss) (hf : ss.all flatV = true) : RowF D τ cs ss := ⟨h.1, fun j v s hj hs => (h.2 j v s hj hs).flat (List.all_eq_true.1 hf s (List.mem_of_getElem? hs))⟩
/-- Elements that hang on no memory. -/
def FlatOk (D : Shp S) : Prop := ∀ T, D.flat T = true → ∀ x, (D.shape T x).all flatV = true
theorem Els.flat (hF : FlatOk D) {T : S.C} (hT : D.flat T = true) {xs : List Value} {l : List (S.car T)} (h : Els D σ T xs l) : Els D τ T xs l := ⟨h.1, fun i x hx => (h.2 i x hx).flat (hF T hT x)⟩
mutual
theorem flat_lay (hF : FlatOk D) : ∀ {t : Tr S} {v : Value} {ms : List HObj}, flatT D t = true → Lay D σ t v ms → Lay D τ t v ms
  | .f x, _, _, hf, h => by cases h with | f h => exact .f (h.flat hf)
  | .same, _, _, hf, _ => by cases hf
  | .vec e T l, _, _, hf, h => by cases h with | vec h hl h1 => exact .vec (h.flat hF hf) hl h1
  | .arr T N l, _, _, hf, h => by cases h with | arr hN h => exact .arr hN (h.flat hF hf)
  | .map K V F, _, _, hf, h => by
    cases h with
    | map h =>
      obtain ⟨_, hV⟩ := and_b hf
      refine .map fun k => ?_
      have := h k
      revert this
      generalize F k = y
      rename_i m _
      generalize m k = u
      intro this
      cases u <;> cases y <;> first | exact this | (obtain ⟨cs, h1, h2⟩ := this; exact ⟨cs, h1.flat (hF V hV _), h2⟩)
  | .ptr ty ts, _, _, hf, h => by cases h with | ptr h h1 => exact .ptr (flat_layL hF hf h) h1
  | .agg ts, _, _, hf, h => by cases h with | agg h h1 => exact .agg (flat_layL hF hf h) h1
  | .el T x, _, _, hf, h => by cases h with | el h => exact .el (h.flat (hF T hf x))
theorem flat_layL (hF : FlatOk D) : ∀ {ts : List (Tr S)} {vs : List Value} {ms : List HObj}, flatTs D ts = true → LayL D σ ts vs ms → LayL D τ ts vs ms
  | [], _, _, _, h => by cases h; exact .nil
  | t :: ts, _, _, hf, h => by
    obtain ⟨h1, h2⟩ := and_b hf
    cases h with
    | cons h h' => exact .cons (flat_lay hF h1 h) (flat_layL hF h2 h')
end
mutual
theorem flat_layB (hF : FlatOk D) : ∀ {t t0 : Tr S} {v0 v : Value} {m0 ms : List HObj}, flatT D t = true → LayB D σ t0 t v0 m0 v ms → LayB D τ t0 t v0 m0 v ms
  | .f x, _, _, _, _, _, hf, h => by cases h with | v h => exact .v (flat_lay hF hf h)
  | .same, _, _, _, _, _, hf, _ => by cases hf
  | .vec e T l, _, _, _, _, _, hf, h => by
    cases h with
    | v h => exact .v (flat_lay hF hf h)
    | vec h hl h1 => exact .vec (h.flat hF hf) hl h1
  | .arr T N l, _, _, _, _, _, hf, h => by cases h with | v h => exact .v (flat_lay hF hf h)
  | .map K V F, _, _, _, _, _, hf, h => by
    cases h with
    | v h => exact .v (flat_lay hF hf h)
    | map h =>
      obtain ⟨_, hV⟩ := and_b hf
      refine .map fun k => ?_
      have := h k
      revert this
      generalize F k = y
      rename_i m _
      generalize m k = u
      intro this
      cases u <;> cases y <;> first | exact this | (obtain ⟨cs, h1, h2⟩ := this; exact ⟨cs, h1.flat (hF V hV _), h2⟩)
  | .ptr ty ts, _, _, _, _, _, hf, h => by
    cases h with
    | v h => exact .v (flat_lay hF hf h)
    | ptr h h1 => exact .ptr (flat_layBL hF hf h) h1
  | .agg ts, _, _, _, _, _, hf, h => by cases h with | v h => exact .v (flat_lay hF hf h)
  | .el T x, _, _, _, _, _, hf, h => by cases h with | v h => exact .v (flat_lay hF hf h)
theorem flat_layBL (hF : FlatOk D) : ∀ {ts ts0 : List (Tr S)} {vs0 vs : List Value} {m0 ms : List HObj}, flatTs D ts = true → LayBL D σ ts0 ts vs0 m0 vs ms → LayBL D τ ts0 ts vs0 m0 vs ms
  | [], _, _, _, _, _, _, h => by cases h; exact .nil
  | t :: ts, _, _, _, _, _, hf, h => by
    obtain ⟨h1, h2⟩ := and_b hf
    cases h with
    | cons h h' => exact .cons (flat_layB hF h1 h) (flat_layBL hF h2 h')
end
theorem flat_layT (hF : FlatOk D) : ∀ {ts0 ts : List (Tr S)} {vs : List Value} {m0 m : List HObj}, flatOs D ts = true → LayT D σ ts0 ts vs m0 m → LayT D τ ts0 ts vs m0 m := by
  intro ts0 ts vs m0 m hf h
  induction h with
  | nil => exact .nil
  | skip _ ih => exact .skip (ih hf)
  | @keep t0 t ts0 ts v0 vs a0 a m0 m h _ ih =>
    cases t with
    | same =>
      cases h with
      | same _ => exact .skip (ih hf)
      | v h => cases h
    | _ => obtain ⟨h1, h2⟩ := and_b hf; exact .keep (flat_layB hF h1 h) (ih h2)
/-- Nil lists may be laid beside. -/
def Nilx (a b : List HObj) : Prop := ∀ (c : Cx) (w : World) (σ : Hv) (rest : List HObj), St c w σ (a ++ rest) → St c w σ (b ++ rest)
theorem Nilx.refl (a : List HObj) : Nilx a a := fun _ _ _ _ h => h
theorem Nilx.append {a b a' b' : List HObj} (h : Nilx a b) (h' : Nilx a' b') : Nilx (a ++ a') (b ++ b') := by
  intro c w σ rest hS
  rw [List.append_assoc] at hS
  have h1 := h c w σ _ hS
  have h2 := h1.perm (ms' := a' ++ (b ++ rest)) (by rw [← List.append_assoc, ← List.append_assoc]; exact List.Perm.append_right rest List.perm_append_comm)
  have h3 := h' c w σ _ h2
  exact h3.perm (by rw [← List.append_assoc]; exact List.Perm.append_right rest List.perm_append_comm)
theorem Nilx.nil (e : TypeId) (size : Nat) : Nilx [] [vec (.slice none 0 0) e size 0 []] := fun _ _ _ _ h => h.addNil e size
theorem LayL.frozen : ∀ {xs : List (FV S)} {cs : List Value}, RowF D σ cs xs → LayL D σ (xs.map Tr.f) cs []
  | [], cs, h => by
    have : cs = [] := List.eq_nil_of_length_eq_zero h.1
    subst this; exact .nil
  | x :: xs, cs, h => by
    cases cs with
    | nil => have := h.1; cases this
    | cons c cs =>
      have h1 := h.2 0 c x rfl rfl
      exact LayL.cons (ms := []) (.f h1) (LayL.frozen ⟨by have := h.1; simpa using this, fun j v s hj hk => h.2 (j + 1) v s (by simpa using hj) (by simpa using hk)⟩)
theorem toC_ok {s : SV S} {v : Value} {x : FV S} (hs : SRep D ν σ v s) (h : toC s = some x) : RepF D σ v x := by
  cases hs with
  | f hf => cases h; exact hf
  | lit b => cases h; exact .bool b
  | pb p d => cases h; exact .bool _
  | pbn p d => cases h; exact .bool _
  | _ => cases h
theorem toC_back {s : SV S} {v : Value} {x : FV S} (h : toC s = some x) (hr : RepF D σ v x) : SRep D ν σ v s := by
  cases s with
  | f y => cases h; exact .f hr
  | lit b => cases h; cases hr; exact .lit b
  | pb p d neg =>
    cases neg with
    | false => cases h; cases hr; exact .pb p d
    | true => cases h; cases hr; exact .pbn p d
  | _ => cases h
theorem gathV_ok {s : SV S} {v : Value} {t : Tr S} {tk fz : List Nat} (hD : D.Ok) (hor : ∀ o a, ob o = some a → ORep D ν σ lkc o a (oh o)) (hs : SRep D ν σ v s) (h : gathV ob s = some (t, tk, fz))
    (hf : ∀ o e T l v, o ∈ fz → ob o = some (.vec e T l) → ν o = some v → RepF D σ v (.sl T l)) : tk = [] ∧ Lay D σ t v [] := by
  have one : ∀ {s : SV S}, SRep D ν σ v s → (match toF ob s with | some (x, b) => some (Tr.f x, ([] : List Nat), b) | none => none) = some (t, tk, fz) → tk = [] ∧ Lay D σ t v [] := by
    intro s hs h
    split at h
    · rename_i x b hx
      cases h
      rcases toF_ok hD hor hs hx with ⟨_, h1⟩ | ⟨o, e, T, l, h0, rfl, hob, hν⟩
      · exact ⟨rfl, .f h1⟩
      · subst h0
        exact ⟨rfl, .f (hf o e T l v (by simp) hob hν)⟩
    · cases h
  cases hs with
  | agg cs ss hl hr h1 =>
    simp only [gathV] at h
    split at h
    case h_2 => cases h
    rename_i xs b hxs
    cases h
    have hrow := toFs_ok hD hor (Sub.refl σ) ⟨hl, hr, h1⟩ hxs hf
    exact ⟨rfl, .agg (LayL.frozen hrow) h1⟩
  | arr cs T N l hN hl hr => cases h; exact ⟨rfl, .arr hN ⟨hl, hr⟩⟩
  | f hf' => exact one (.f hf') h
  | lit b => exact one (.lit b) h
  | pb p d => exact one (.pb p d) h
  | pbn p d => exact one (.pbn p d) h
  | tup cs ss hl hr => exact one (.tup cs ss hl hr) h
  | ref o off b hν => exact one (.ref o off b hν) h
  | eref T o i off b m cap hν hi => exact one (.eref T o i off b m cap hν hi) h
  | aref T N o i off b hν hi => exact one (.aref T N o i off b hν hi) h
  | fptr ad cs l off hr hR => exact one (.fptr ad cs l off hr hR) h
  | fap ad cs T N l hN hr hl hR => exact one (.fap ad cs T N l hN hr hl hR) h
  | hnd o v hν h1 => exact one (.hnd o v hν h1) h
  | fn g a b first cap h1 h2 h3 h4 => exact one (.fn g a b first cap h1 h2 h3 h4) h
  | und => exact one .und h
  | dead => exact one (.dead _) h
theorem nils_sl {T : S.C} {v : Value} (h : RepF D σ v .nils) : RepF D σ v (.sl T []) := by
  cases h
  exact .sl T [] none 0 (fun _ _ => undef) (Nat.le_refl _) (by simp) (fun i x hx => by simp at hx) (fun i x j s hx => by simp at hx)
theorem gathS_ok {s : SV S} {v : Value} {T : S.C} {t : Tr S} {tk fz : List Nat} (hD : D.Ok) (hor : ∀ o a, ob o = some a → ORep D ν σ lkc o a (oh o)) (hs : SRep D ν σ v s) (h : gathS ob T s = some (t, tk, fz))
    (hf : ∀ o e T l v, o ∈ fz → ob o = some (.vec e T l) → ν o = some v → RepF D σ v (.sl T l)) : tk = [] ∧ Lay D σ t v [] := by
  unfold gathS at h
  split at h
  · cases h
    cases hs with
    | f hs => exact ⟨rfl, .f (nils_sl hs)⟩
  · split at h
    case h_2 => cases h
    rename_i T' l b hx
    split at h
    case h_2 => cases h
    rename_i e _
    cases h
    subst e
    rcases toF_ok hD hor hs hx with ⟨_, h1⟩ | ⟨o, e, T, l, h0, h1, hob, hν⟩
    · exact ⟨rfl, .f h1⟩
    · cases h1
      subst h0
      exact ⟨rfl, .f (hf o e _ _ v (by simp) hob hν)⟩
theorem gathE_ok {s : SV S} {v : Value} {T : S.C} {t : Tr S} {tk fz : List Nat} (hD : D.Ok) (hor : ∀ o a, ob o = some a → ORep D ν σ lkc o a (oh o)) (hs : SRep D ν σ v s) (h : gathE D ob T s = some (t, tk, fz))
    (hf : ∀ o e T l v, o ∈ fz → ob o = some (.vec e T l) → ν o = some v → RepF D σ v (.sl T l)) : tk = [] ∧ Lay D σ t v [] := by
  unfold gathE at h
  split at h
  case h_2 => cases h
  split at h
  case h_2 => cases h
  rename_i xs b hxs
  split at h
  case h_2 => cases h
  rename_i x hx
  cases h
  cases hs with
  | agg cs _ hl hr h1 =>
    have hrow := toFs_ok hD hor (Sub.refl σ) ⟨hl, hr, h1⟩ hxs hf
    exact ⟨rfl, .el (hD.bld T xs x σ cs hx hrow)⟩
/-- What is handed over is named. -/
theorem tko_nil {tko : List (Nat × AO S)} {ins : List HObj} (h : tko.map (·.1) = []) (ho : Objs D ν σ lkc tko ins) : ins = [] := by
  cases tko with
  | cons => cases h
  | nil => cases ins with
    | nil => rfl
    | cons => exact ho.elim
mutual
theorem gath_lay (hD : D.Ok) (hor : ∀ o a, ob o = some a → ORep D ν σ lkc o a (oh o)) : ∀ {pk : PK S} {s : SV S} {v : Value} {t : Tr S} {tk fz : List Nat} {tko : List (Nat × AO S)} {ins : List HObj}, SRep D ν σ v s → gath D ob lkc pk s = some (t, tk, fz) →
    tko.map (·.1) = tk → (∀ q ∈ tko, ob q.1 = some q.2) → Objs D ν σ lkc tko ins → (∀ o e T l v, o ∈ fz → ob o = some (.vec e T l) → ν o = some v → RepF D σ v (.sl T l)) → ∃ ins', Lay D σ t v ins' ∧ Nilx ins ins'
  | .v, s, v, t, tk, fz, tko, ins, hs, h, ht, _, ho, hf => by
    simp only [gath] at h
    obtain ⟨rfl, hl⟩ := gathV_ok hD hor hs h hf
    have := tko_nil ht ho
    subst this
    exact ⟨[], hl, Nilx.refl _⟩
  | .sl T, s, v, t, tk, fz, tko, ins, hs, h, ht, _, ho, hf => by
    simp only [gath] at h
    obtain ⟨rfl, hl⟩ := gathS_ok hD hor hs h hf
    have := tko_nil ht ho
    subst this
    exact ⟨[], hl, Nilx.refl _⟩
  | .el T, s, v, t, tk, fz, tko, ins, hs, h, ht, _, ho, hf => by
    simp only [gath] at h
    obtain ⟨rfl, hl⟩ := gathE_ok hD hor hs h hf
    have := tko_nil ht ho
    subst this
    exact ⟨[], hl, Nilx.refl _⟩
  | .c, s, v, t, tk, fz, tko, ins, hs, h, ht, _, ho, _ => by
    simp only [gath] at h
    cases hc : toC s with
    | none => rw [hc] at h; cases h
    | some x =>
      rw [hc] at h; cases h
      have := tko_nil ht ho
      subst this
      exact ⟨[], .f (toC_ok hs hc), Nilx.refl _⟩
  | .own e T, s, v, t, tk, fz, tko, ins, hs, h, ht, hq, ho, _ => by
    simp only [gath] at h
    split at h
    case h_2 => cases h
    rename_i a l hown
    cases h
    rcases ownQ_ok hown with ⟨rfl, rfl, rfl⟩ | ⟨o, rfl, rfl, hob⟩
    · have := tko_nil ht ho
      subst this
      have hv := rep_nils hs
      subst hv
      exact ⟨_, .vec (xs := []) ⟨by simp, fun i x hx => by simp at hx⟩ (by simp) rfl, Nilx.nil e (D.size T)⟩
    · match tko, ht, hq, ho with
      | [q], ht, hq, ho =>
        match ins, ho with
        | [m], ho =>
          obtain ⟨o', a⟩ := q
          simp at ht
          subst ht
          have ha := hq (o', a) (by simp)
          simp only at ha
          rw [hob] at ha; cases ha
          obtain ⟨u, xs, hν, hm, hE, hl⟩ := ho.1
          subst hm
          have hv := rep_hnd hs hν
          subst hv
          have h1 : v.oneCell' = true := by cases hs with | hnd _ _ _ h => exact h
          exact ⟨_, .vec hE hl h1, Nilx.refl _⟩
  | .map K V, s, v, t, tk, fz, tko, ins, hs, h, ht, hq, ho, _ => by
    simp only [gath] at h
    split at h
    case h_2 => cases h
    rename_i o
    split at h
    case h_2 => cases h
    rename_i K' V' F hob
    split at h
    case h_2 => cases h
    rename_i e1 e2 _ _
    cases h
    subst e1 e2
    match tko, ht, hq, ho with
    | [q], ht, hq, ho =>
      match ins, ho with
      | [m], ho =>
        obtain ⟨o', a⟩ := q
        simp at ht
        subst ht
        have ha := hq (o', a) (by simp)
        simp only at ha
        rw [hob] at ha; cases ha
        obtain ⟨b, mm, hν, hm, hF⟩ := ho.1
        subst hm
        have hv := rep_hnd hs hν
        subst hv
        exact ⟨_, .map hF, Nilx.refl _⟩
  | .ptr ty pk, s, v, t, tk, fz, tko, ins, hs, h, ht, hq, ho, hf => by
    simp only [gath] at h
    split at h
    case h_2 => cases h
    rename_i o
    split at h
    case h_2 => cases h
    rename_i ty' l hob
    cases hb : Nat.beq ty ty' with
    | false => rw [hb] at h; cases h
    | true =>
      rw [hb] at h
      have hb := Nat.eq_of_beq_eq_true hb
      subst hb
      simp only [cond_true] at h
      split at h
      case h_2 => cases h
      rename_i ts a b hg
      cases h
      match tko, ht, hq, ho with
      | q :: tko, ht, hq, ho =>
        match ins, ho with
        | m :: ins, ho =>
          obtain ⟨o', ao⟩ := q
          injection ht with h1 h2
          simp only at h1
          subst h1
          have ha := hq (o', ao) (by simp)
          simp only at ha
          rw [hob] at ha; cases ha
          obtain ⟨b', cs, hν, hm, hrow⟩ := ho.1
          subst hm
          cases hs with
          | ref _ _ b2 hν2 =>
            rw [hν] at hν2; cases hν2
            obtain ⟨ins', hl, hx⟩ := gaths_lay hD hor (pk := pk) hrow.1 hrow.2.1 hg h2 (fun q hq' => hq q (by simp [hq'])) ho.2 hf
            exact ⟨_, .ptr hl hrow.2.2, Nilx.append (Nilx.refl [_]) hx⟩
  | .agg pk, s, v, t, tk, fz, tko, ins, hs, h, ht, hq, ho, hf => by
    simp only [gath] at h
    split at h
    case h_2 => cases h
    rename_i l
    split at h
    case h_2 => cases h
    rename_i ts a b hg
    cases h
    cases hs with
    | agg cs _ hl hr h1 =>
      obtain ⟨ins', hl, hx⟩ := gaths_lay hD hor (pk := pk) hl hr hg ht hq ho hf
      exact ⟨_, .agg hl h1, hx⟩
theorem gaths_lay (hD : D.Ok) (hor : ∀ o a, ob o = some a → ORep D ν σ lkc o a (oh o)) : ∀ {pk : List (PK S)} {ss : List (SV S)} {vs : List Value} {ts : List (Tr S)} {tk fz : List Nat} {tko : List (Nat × AO S)} {ins : List HObj}, vs.length = ss.length →
    (∀ (j : Nat) v s, vs[j]? = some v → ss[j]? = some s → SRep D ν σ v s) → gaths D ob lkc pk ss = some (ts, tk, fz) →
    tko.map (·.1) = tk → (∀ q ∈ tko, ob q.1 = some q.2) → Objs D ν σ lkc tko ins → (∀ o e T l v, o ∈ fz → ob o = some (.vec e T l) → ν o = some v → RepF D σ v (.sl T l)) → ∃ ins', LayL D σ ts vs ins' ∧ Nilx ins ins'
  | [], ss, vs, ts, tk, fz, tko, ins, hl, _, h, ht, _, ho, _ => by
    cases ss with
    | cons => cases h
    | nil =>
      cases h
      cases vs with
      | cons => cases hl
      | nil =>
        have := tko_nil ht ho
        subst this
        exact ⟨[], .nil, Nilx.refl _⟩
  | p :: pk, ss, vs, ts, tk, fz, tko, ins, hl, hr, h, ht, hq, ho, hf => by
    cases ss with
    | nil => cases h
    | cons s ss =>
      cases vs with
      | nil => cases hl
      | cons v vs =>
        simp only [gaths] at h
        split at h
        case h_2 => cases h
        rename_i t a b ts' a' b' h1 h2
        cases h
        obtain ⟨tko1, tko2, rfl, ht1, ht2⟩ := List.map_eq_append_iff.1 ht
        obtain ⟨m1, m2, rfl, ho1, ho2⟩ := ho.split
        obtain ⟨i1, hl1, hx1⟩ := gath_lay hD hor (pk := p) (hr 0 v s rfl rfl) h1 ht1 (fun q hq' => hq q (by simp [hq'])) ho1 (fun o e T l v hm => hf o e T l v (by simp [hm]))
        obtain ⟨i2, hl2, hx2⟩ := gaths_lay hD hor (pk := pk) (by simpa using hl) (fun j v s hj hk => hr (j + 1) v s (by simpa using hj) (by simpa using hk)) h2 ht2 (fun q hq' => hq q (by simp [hq'])) ho2 (fun o e T l v hm => hf o e T l v (by simp [hm]))
        exact ⟨_, .cons hl1 hl2, Nilx.append hx1 hx2⟩
end
end Go.Fx
end
section
namespace Go.Fx
open Go Go.RowKit Go.Fl Go.Fl.Lk
variable {S : Sig} {P : Program} {D : Shp S} {ν ν' ν0 ν1 : Nm} {σ τ σ0 σ1 : Hv} {n : Nat} {f : Fr}
variable {w w0 : World} {cx : Cx} {ro : Ro S} {st : AS S} {ms : List HObj} {ob os : Nat → Option (AO S)} {lkc : Nat → Nat → SV S} {oh : Nat → HObj}
theorem resL_at {g : Nat → SV S} : ∀ {l : List (SV S)} {k i : Nat}, (resL g k l)[i]? = (l[i]?).map (res1 (g (k + i)))
  | [], _, _ => by simp [resL]
  | s :: l, k, 0 => by rw [resL_cons]; simp
  | s :: l, k, i + 1 => by
    rw [resL_cons, List.getElem?_cons_succ, resL_at, List.getElem?_cons_succ]
    congr 3; omega
theorem res1_ne {x s : SV S} (h : s ≠ .lk) : res1 x s = s := by cases s <;> first | rfl | exact absurd rfl h
theorem blk_inj {b b' T T' : Nat} {cs cs' : List Value} (h : (blk b T cs).ok w) (h' : (blk b' T' cs').ok w) (hb : b = b') : cs = cs' := by
  subst hb
  have h1 := blk_ok h
  rw [blk_ok h'] at h1
  injection h1 with h1
  injection h1 with h1
  exact (congrArg Array.toList h1).symm
theorem rep_ref0 {v : Value} {o : Nat} (h : SRep D ν σ v (.ref o 0)) : ∃ b, v = .pointer (some ⟨b, 0, none⟩) ∧ ν o = some v := by
  cases h with
  | ref _ _ b h => exact ⟨b, rfl, h⟩
mutual
theorem inst_ok : ∀ {t : Tr S} {v : Value} {ms : List HObj} {nx nx' : Nat} {s : SV S} {os : List (Nat × AO S)} {ν : Nm}, Lay D σ t v ms → inst D t nx = some (s, os, nx') → (∀ o, nx ≤ o → ν o = none) →
    ∃ ν', Ext ν ν' ∧ (∀ o, nx' ≤ o → ν' o = none) ∧ SRep D ν' σ v s ∧ Objs D ν' σ lkc os ms ∧ nx ≤ nx' ∧ (∀ q ∈ os, nx ≤ q.1 ∧ q.1 < nx') ∧ (os.map (·.1)).Nodup
  | .f x, v, ms, nx, nx', s, os, ν, hl, hi, hf => by
    cases hl with
    | f h => cases hi; exact ⟨ν, Ext.refl ν, hf, .f h, trivial, Nat.le_refl _, by simp, by simp⟩
  | .same, _, _, _, _, _, _, _, _, hi, _ => by cases hi
  | .vec e T l, v, ms, nx, nx', s, os, ν, hl, hi, hf => by
    cases hl with
    | vec hE hlen h1 =>
      cases hi
      refine ⟨ν.add nx v, Nm.add_ext (hf nx (Nat.le_refl _)), fun o ho => ?_, .hnd nx v Nm.add_self h1, ⟨⟨v, _, Nm.add_self, rfl, hE, hlen⟩, trivial⟩, Nat.le_succ _, by simp, by simp⟩
      unfold Nm.add; rw [if_neg (by omega)]; exact hf o (by omega)
  | .arr T N l, v, ms, nx, nx', s, os, ν, hl, hi, hf => by
    cases hl with
    | arr hN hE => cases hi; exact ⟨ν, Ext.refl ν, hf, .arr _ T N l hN hE.1 hE.2, trivial, Nat.le_refl _, by simp, by simp⟩
  | .map K V F, v, ms, nx, nx', s, os, ν, hl, hi, hf => by
    cases hl with
    | map hF =>
      cases hi
      refine ⟨ν.add nx _, Nm.add_ext (hf nx (Nat.le_refl _)), fun o ho => ?_, .hnd nx _ Nm.add_self rfl, ⟨⟨_, _, Nm.add_self, rfl, hF⟩, trivial⟩, Nat.le_succ _, by simp, by simp⟩
      unfold Nm.add; rw [if_neg (by omega)]; exact hf o (by omega)
  | .ptr ty ts, v, ms, nx, nx', s, os, ν, hl, hi, hf => by
    cases hl with
    | @ptr _ _ b cs ms hl h1 =>
      simp only [inst] at hi
      split at hi
      case h_2 => cases hi
      rename_i ss os' nx2 hi'
      cases hi
      obtain ⟨ν', hx, hfr, hlen, hs, ho, hle, hnm, hnd⟩ := insts_ok (ν := ν.add nx (.pointer (some ⟨b, 0, none⟩))) hl hi' (fun o ho => by unfold Nm.add; rw [if_neg (by omega)]; exact hf o (by omega))
      have hself := hx _ _ (Nm.add_self (ν := ν) (o := nx) (v := .pointer (some ⟨b, 0, none⟩)))
      have hrow : RowS D ν' σ cs ss := ⟨hlen, hs, h1⟩
      refine ⟨ν', (Nm.add_ext (hf nx (Nat.le_refl _))).trans hx, hfr, .ref nx 0 b hself, ⟨⟨b, cs, hself, rfl, by rw [resL_id hrow]; exact hrow⟩, ho⟩, by omega, fun q hq => ?_, ?_⟩
      · rcases List.mem_cons.1 hq with rfl | hq
        · exact ⟨Nat.le_refl _, by simp only; omega⟩
        · have := hnm q hq; omega
      · rw [List.map_cons, List.nodup_cons]
        refine ⟨fun hm => ?_, hnd⟩
        obtain ⟨q, hq, he⟩ := List.mem_map.1 hm
        have := hnm q hq
        simp only at he
        omega
  | .el T x, v, ms, nx, nx', s, os, ν, hl, hi, hf => by
    cases hl with
    | el hr =>
      cases hi
      have hS := hr.toS (ν := ν)
      exact ⟨ν, Ext.refl ν, hf, .agg _ _ hS.1 hS.2.1 hS.2.2, trivial, Nat.le_refl _, by simp, by simp⟩
  | .agg ts, v, ms, nx, nx', s, os, ν, hl, hi, hf => by
    cases hl with
    | agg hl h1 =>
      simp only [inst] at hi
      split at hi
      case h_2 => cases hi
      rename_i ss os' nx2 hi'
      cases hi
      obtain ⟨ν', hx, hfr, hlen, hs, ho, hr⟩ := insts_ok hl hi' hf
      exact ⟨ν', hx, hfr, .agg _ _ hlen hs h1, ho, hr⟩
theorem insts_ok : ∀ {ts : List (Tr S)} {vs : List Value} {ms : List HObj} {nx nx' : Nat} {ss : List (SV S)} {os : List (Nat × AO S)} {ν : Nm}, LayL D σ ts vs ms → insts D ts nx = some (ss, os, nx') → (∀ o, nx ≤ o → ν o = none) →
    ∃ ν', Ext ν ν' ∧ (∀ o, nx' ≤ o → ν' o = none) ∧ vs.length = ss.length ∧ (∀ (j : Nat) v s, vs[j]? = some v → ss[j]? = some s → SRep D ν' σ v s) ∧ Objs D ν' σ lkc os ms ∧ nx ≤ nx' ∧ (∀ q ∈ os, nx ≤ q.1 ∧ q.1 < nx') ∧ (os.map (·.1)).Nodup
  | [], vs, ms, nx, nx', ss, os, ν, hl, hi, hf => by
    cases hl; cases hi
    exact ⟨ν, Ext.refl ν, hf, rfl, fun j v s hj => by simp at hj, trivial, Nat.le_refl _, by simp, by simp⟩
  | t :: ts, vs, ms, nx, nx', ss, os, ν, hl, hi, hf => by
    cases hl with
    | cons h h' =>
      simp only [insts] at hi
      split at hi
      case h_2 => cases hi
      rename_i s a nx1 hi1
      split at hi
      case h_2 => cases hi
      rename_i r b nx2 hi2
      cases hi
      obtain ⟨ν1, hx1, hf1, hs1, ho1, hle1, hnm1, hnd1⟩ := inst_ok h hi1 hf
      obtain ⟨ν2, hx2, hf2, hlen, hs2, ho2, hle2, hnm2, hnd2⟩ := insts_ok h' hi2 hf1
      refine ⟨ν2, hx1.trans hx2, hf2, by simp [hlen], fun j v s hj hk => ?_, (ho1.mono hx2 (Sub.refl _)).append ho2, by omega, fun q hq => ?_, ?_⟩
      · cases j with
        | zero => simp at hj hk; subst hj hk; exact hs1.mono hx2 (Sub.refl _)
        | succ j => exact hs2 j v s (by simpa using hj) (by simpa using hk)
      · rcases List.mem_append.1 hq with hq | hq
        · have := hnm1 q hq; omega
        · have := hnm2 q hq; omega
      · rw [List.map_append, List.nodup_append]
        refine ⟨hnd1, hnd2, fun x hx y hy he => ?_⟩
        obtain ⟨q, hq, rfl⟩ := List.mem_map.1 hx
        obtain ⟨q', hq', rfl⟩ := List.mem_map.1 hy
        have h1 := hnm1 q hq
        have h2 := hnm2 q' hq'
        omega
end
mutual
theorem upd1_ok (hor : ∀ o a, ob o = some a → ORep D ν σ lkc o a (oh o) ∧ (oh o).ok w) : ∀ {pk : PK S} {o s : SV S} {t0 t : Tr S} {v0 v1 : Value} {m0 m : List HObj} {tk fz : List Nat} {nx nx' : Nat} {s' : SV S} {os : List (Nat × AO S)} {ν1 : Nm},
    SRep D ν σ v0 s → gath D ob lkc pk s = some (t0, tk, fz) → LayB D σ1 t0 t v0 m0 v1 m → (∀ q ∈ m0, q.ok w) → upd1 ob lkc pk o s t nx = some (s', os, nx') → Ext ν ν1 → (∀ k, nx ≤ k → ν1 k = none) →
    ∃ ν2, Ext ν1 ν2 ∧ (∀ k, nx' ≤ k → ν2 k = none) ∧ SRep D ν2 σ1 v1 (res1 s s') ∧ (s' = .lk → o = .lk) ∧ Objs D ν2 σ1 lkc os m
  | .c, o, s, t0, t, v0, v1, m0, m, tk, fz, nx, nx', s', os, ν1, hs, hg, hB, hok, hu, hx, hf => by
    simp only [gath] at hg
    cases hc : toC s with
    | none => rw [hc] at hg; cases hg
    | some x =>
      rw [hc] at hg; cases hg
      simp only [upd1] at hu
      split at hu
      case h_2 => cases hu
      cases hB with
      | v h => cases h
      | same h =>
        cases h with
        | f h =>
          split at hu
          · cases hu
            exact ⟨ν1, Ext.refl _, hf, toC_back hc h, fun _ => rfl, trivial⟩
          · rw [hc] at hu; cases hu
            exact ⟨ν1, Ext.refl _, hf, .f h, (fun h => by cases h), trivial⟩
  | .v, o, s, t0, t, v0, v1, m0, m, tk, fz, nx, nx', s', os, ν1, hs, hg, hB, hok, hu, hx, hf => by
    simp only [upd1] at hu
    split at hu
    · cases hu
    · cases hu
      cases hB with
      | v h => cases h with | f h => exact ⟨ν1, Ext.refl _, hf, .f h, (fun h => by cases h), trivial⟩
    · cases hu
  | .sl T, o, s, t0, t, v0, v1, m0, m, tk, fz, nx, nx', s', os, ν1, hs, hg, hB, hok, hu, hx, hf => by
    simp only [upd1] at hu
    split at hu
    · cases hu
    · cases hu
      cases hB with
      | v h => cases h with | f h => exact ⟨ν1, Ext.refl _, hf, .f h, (fun h => by cases h), trivial⟩
    · cases hu
  | .el T, o, s, t0, t, v0, v1, m0, m, tk, fz, nx, nx', s', os, ν1, hs, hg, hB, hok, hu, hx, hf => by
    simp only [upd1] at hu; cases hu
  | .own e T, o, s, t0, t, v0, v1, m0, m, tk, fz, nx, nx', s', os, ν1, hs, hg, hB, hok, hu, hx, hf => by
    simp only [upd1] at hu
    split at hu
    · cases hu
    · cases hu
      cases hB with
      | v h => cases h
      | vec hE hlen h1 =>
        refine ⟨ν1.add nx v1, Nm.add_ext (hf nx (Nat.le_refl _)), fun o ho => ?_, .hnd nx v1 Nm.add_self h1, (fun h => by cases h), ⟨⟨v1, _, Nm.add_self, rfl, hE, hlen⟩, trivial⟩⟩
        unfold Nm.add; rw [if_neg (by omega)]; exact hf o (by omega)
    · cases hu
  | .map K V, o, s, t0, t, v0, v1, m0, m, tk, fz, nx, nx', s', os, ν1, hs, hg, hB, hok, hu, hx, hf => by
    simp only [upd1] at hu
    split at hu
    case h_2 => cases hu
    rename_i k K' V' F
    cases hB with
    | v h => cases h
    | map hF =>
      cases hs with
      | hnd _ _ hν h1 =>
        have h2 : SRep D ν1 σ1 _ (SV.hnd k) := .hnd k _ (hx _ _ hν) h1
        split at hu
        · cases hu
          exact ⟨ν1, Ext.refl _, hf, h2, fun _ => rfl, ⟨⟨_, _, hx _ _ hν, rfl, hF⟩, trivial⟩⟩
        · cases hu
          exact ⟨ν1, Ext.refl _, hf, h2, (fun h => by cases h), ⟨⟨_, _, hx _ _ hν, rfl, hF⟩, trivial⟩⟩
  | .ptr ty0 pk, o, s, t0, t, v0, v1, m0, m, tk, fz, nx, nx', s', os, ν1, hs, hg, hB, hok, hu, hx, hf => by
    simp only [upd1] at hu
    split at hu
    case h_2 => cases hu
    rename_i k ty ts
    split at hu
    case h_2 => cases hu
    rename_i ty2 l hob
    split at hu
    case h_2 => cases hu
    rename_i cs os' nx2 hu'
    simp only [gath, hob] at hg
    obtain ⟨_, hg⟩ : Nat.beq ty0 ty2 = true ∧ (match gaths D ob lkc pk (resL (lkc k) 0 l) with
        | some (ts, a, b) => some (Tr.ptr ty0 ts, k :: a, b)
        | none => none) = some (t0, tk, fz) := by
      cases hb : Nat.beq ty0 ty2 with
      | true => rw [hb] at hg; exact ⟨rfl, hg⟩
      | false => rw [hb] at hg; cases hg
    split at hg
    case h_2 => cases hg
    rename_i ts0 a b hg'
    cases hg
    cases hB with
    | v h => cases h
    | @ptr _ _ _ _ b cs0 cs1 m0 ms hL h1 =>
      obtain ⟨_, hbe, hν⟩ := rep_ref0 hs
      · cases hbe
        obtain ⟨⟨b2, cs2, hν2, hoh, hrow⟩, hohok⟩ := hor k _ hob
        rw [hν] at hν2; cases hν2
        rw [hoh] at hohok
        have he := blk_inj hohok (hok (blk b ty0 cs0) (by simp)) rfl
        subst he
        obtain ⟨ν2, hx2, hf2, hl1, hl2, hs2, ho2⟩ := upds_ok hor (pk := pk) hrow.1 hrow.2.1 hg' hL (fun q hq => hok q (by simp [hq])) hu' hx hf
        have hk2 := hx2 _ _ (hx _ _ hν)
        have hrow2 : RowS D ν2 σ1 cs1 (resL (lkc k) 0 cs) := by
          refine ⟨by rw [resL_len, hl2, hl1], fun j v s hj hk => ?_, h1⟩
          rw [resL_at] at hk
          obtain ⟨sj, hsj⟩ := getq (l := cs) (k := j) (by rw [hl1, ← hl2]; exact lt_of_getq hj)
          obtain ⟨ssj, hssj⟩ := getq (l := resL (lkc k) 0 l) (k := j) (by rw [← hl2]; exact lt_of_getq hj)
          rw [hsj] at hk; cases hk
          obtain ⟨h3, h4⟩ := hs2 j v ssj sj hj hssj hsj
          by_cases hlk : sj = .lk
          · have h5 := resL_lk (g := lkc k) (k := 0) (h4 hlk)
            rw [hssj] at h5; cases h5
            exact h3
          · rw [res1_ne hlk] at h3 ⊢; exact h3
        split at hu
        · cases hu
          exact ⟨ν2, hx2, hf2, .ref k 0 b hk2, fun _ => rfl, ⟨⟨b, cs1, hk2, rfl, hrow2⟩, ho2⟩⟩
        · cases hu
          exact ⟨ν2, hx2, hf2, .ref k 0 b hk2, (fun h => by cases h), ⟨⟨b, cs1, hk2, rfl, hrow2⟩, ho2⟩⟩
  | .agg _, o, s, t0, t, v0, v1, m0, m, tk, fz, nx, nx', s', os, ν1, hs, hg, hB, hok, hu, hx, hf => by
    simp only [upd1] at hu; cases hu
theorem upds_ok (hor : ∀ o a, ob o = some a → ORep D ν σ lkc o a (oh o) ∧ (oh o).ok w) : ∀ {pk : List (PK S)} {l ss : List (SV S)} {t0s ts : List (Tr S)} {vs0 vs1 : List Value} {m0 m : List HObj} {tk fz : List Nat} {nx nx' : Nat} {cs : List (SV S)} {os : List (Nat × AO S)} {ν1 : Nm},
    vs0.length = ss.length → (∀ (j : Nat) v s, vs0[j]? = some v → ss[j]? = some s → SRep D ν σ v s) → gaths D ob lkc pk ss = some (t0s, tk, fz) → LayBL D σ1 t0s ts vs0 m0 vs1 m → (∀ q ∈ m0, q.ok w) → upds ob lkc pk l ss ts nx = some (cs, os, nx') → Ext ν ν1 → (∀ k, nx ≤ k → ν1 k = none) →
    ∃ ν2, Ext ν1 ν2 ∧ (∀ k, nx' ≤ k → ν2 k = none) ∧ cs.length = ss.length ∧ vs1.length = ss.length ∧ (∀ (j : Nat) v s s', vs1[j]? = some v → ss[j]? = some s → cs[j]? = some s' → SRep D ν2 σ1 v (res1 s s') ∧ (s' = .lk → l[j]? = some .lk)) ∧ Objs D ν2 σ1 lkc os m
  | [], l, ss, t0s, ts, vs0, vs1, m0, m, tk, fz, nx, nx', cs, os, ν1, hl, hs, hg, hB, hok, hu, hx, hf => by
    cases ss with
    | cons => cases hg
    | nil =>
      cases hg
      cases hB
      cases l with
      | cons => cases hu
      | nil =>
        cases hu
        exact ⟨ν1, Ext.refl _, hf, rfl, rfl, fun j v s s' hj => by simp at hj, trivial⟩
  | p :: pk, l, ss, t0s, ts, vs0, vs1, m0, m, tk, fz, nx, nx', cs, os, ν1, hl, hs, hg, hB, hok, hu, hx, hf => by
    cases ss with
    | nil => cases hg
    | cons s ss =>
      cases l with
      | nil => cases hu
      | cons o l =>
        simp only [gaths] at hg
        split at hg
        case h_2 => cases hg
        rename_i t0 a b ts0 a' b' hg1 hg2
        cases hg
        cases hB with
        | @cons _ t _ ts v0 v1 vs0 vs1 a0 am m0 m hB hBL =>
          simp only [upds] at hu
          split at hu
          case h_2 => cases hu
          rename_i s' x nx1 hu1
          split at hu
          case h_2 => cases hu
          rename_i r y nx2 hu2
          cases hu
          obtain ⟨ν2, hx2, hf2, hr2, hlk2, ho2⟩ := upd1_ok hor (pk := p) (hs 0 v0 s rfl rfl) hg1 hB (fun q hq => hok q (by simp [hq])) hu1 hx hf
          obtain ⟨ν3, hx3, hf3, hl1, hl2, hr3, ho3⟩ := upds_ok hor (pk := pk) (by simpa using hl) (fun j v s hj hk => hs (j + 1) v s (by simpa using hj) (by simpa using hk)) hg2 hBL (fun q hq => hok q (by simp [hq])) hu2 (hx.trans hx2) hf2
          refine ⟨ν3, hx2.trans hx3, hf3, by simp [hl1], by simp [hl2], fun j v s1 s2 hj hk hm => ?_, (ho2.mono hx3 (Sub.refl _)).append ho3⟩
          cases j with
          | zero => simp at hj hk hm; subst hj hk hm; exact ⟨hr2.mono hx3 (Sub.refl _), fun h => by rw [hlk2 h]; rfl⟩
          | succ j =>
            obtain ⟨h1, h2⟩ := hr3 j v s1 s2 (by simpa using hj) (by simpa using hk) (by simpa using hm)
            exact ⟨h1, fun h => by simpa using h2 h⟩
end
/-- The arguments that come back, where the call was. -/
theorem updT_ok (hor : ∀ o a, ob o = some a → ORep D ν σ lkc o a (oh o) ∧ (oh o).ok w) : ∀ {pk : List (PK S)} {ss : List (SV S)} {t0s ts : List (Tr S)} {vs : List Value} {m0 m : List HObj} {tk fz : List Nat} {nx nx' : Nat} {os : List (Nat × AO S)} {ν1 : Nm},
    vs.length = ss.length → (∀ (j : Nat) v s, vs[j]? = some v → ss[j]? = some s → SRep D ν σ v s) → gaths D ob lkc pk ss = some (t0s, tk, fz) → LayT D σ1 t0s ts vs m0 m → (∀ q ∈ m0, q.ok w) → updT ob lkc pk ss ts nx = some (os, nx') → Ext ν ν1 → (∀ k, nx ≤ k → ν1 k = none) →
    ∃ ν2, Ext ν1 ν2 ∧ (∀ k, nx' ≤ k → ν2 k = none) ∧ Objs D ν2 σ1 lkc os m := by
  intro pk
  induction pk with
  | nil =>
    intro ss t0s ts vs m0 m tk fz nx nx' os ν1 hl hs hg hT hok hu hx hf
    cases ss with
    | cons => cases hg
    | nil =>
      cases hg
      cases hT
      cases hu
      exact ⟨ν1, Ext.refl _, hf, trivial⟩
  | cons p pk ih =>
    intro ss t0s ts vs m0 m tk fz nx nx' os ν1 hl hs hg hT hok hu hx hf
    cases ss with
    | nil => cases hg
    | cons s ss =>
      simp only [gaths] at hg
      split at hg
      case h_2 => cases hg
      rename_i t0 a b ts0 a' b' hg1 hg2
      cases hg
      have skip : ∀ {v : Value} {vs : List Value} {ts : List (Tr S)} {m0' m : List HObj}, vs.length = ss.length → (∀ (j : Nat) v' s', (v :: vs)[j]? = some v' → (s :: ss)[j]? = some s' → SRep D ν σ v' s') → LayT D σ1 ts0 ts vs m0' m → (∀ q ∈ m0', q.ok w) → updT ob lkc pk ss ts nx = some (os, nx') →
          ∃ ν2, Ext ν1 ν2 ∧ (∀ k, nx' ≤ k → ν2 k = none) ∧ Objs D ν2 σ1 lkc os m :=
        fun hl hs hT hok hu => ih hl (fun j v s hj hk => hs (j + 1) v s (by simpa using hj) (by simpa using hk)) hg2 hT hok hu hx hf
      have keep : ∀ {t : Tr S} {ts : List (Tr S)} {v : Value} {vs : List Value} {a0 am m0 m : List HObj}, vs.length = ss.length → (∀ (j : Nat) v' s', (v :: vs)[j]? = some v' → (s :: ss)[j]? = some s' → SRep D ν σ v' s') → LayB D σ1 t0 t v a0 v am → LayT D σ1 ts0 ts vs m0 m → (∀ q ∈ a0 ++ m0, q.ok w) →
          (match upd1 ob lkc p s s t nx with
            | some (_, a, nx') => match updT ob lkc pk ss ts nx' with
              | some (b, nx'') => some (a ++ b, nx'')
              | none => none
            | none => none) = some (os, nx') → ∃ ν2, Ext ν1 ν2 ∧ (∀ k, nx' ≤ k → ν2 k = none) ∧ Objs D ν2 σ1 lkc os (am ++ m) := by
        intro t ts v vs a0 am m0 m hl hs hB hT hok hu
        split at hu
        case h_2 => cases hu
        rename_i s' x nx1 hu1
        split at hu
        case h_2 => cases hu
        rename_i y nx2 hu2
        cases hu
        obtain ⟨ν2, hx2, hf2, _, _, ho2⟩ := upd1_ok hor (pk := p) (hs 0 v s rfl rfl) hg1 hB (fun q hq => hok q (by simp [hq])) hu1 hx hf
        obtain ⟨ν3, hx3, hf3, ho3⟩ := ih hl (fun j v s hj hk => hs (j + 1) v s (by simpa using hj) (by simpa using hk)) hg2 hT (fun q hq => hok q (by simp [hq])) hu2 (hx.trans hx2) hf2
        exact ⟨ν3, hx2.trans hx3, hf3, (ho2.mono hx3 (Sub.refl _)).append ho3⟩
      have plain : updT ob lkc (p :: pk) (s :: ss) ts nx = (match ts with | .same :: ts => updT ob lkc pk ss ts nx | _ => none) → ∃ ν2, Ext ν1 ν2 ∧ (∀ k, nx' ≤ k → ν2 k = none) ∧ Objs D ν2 σ1 lkc os m := by
        intro he
        rw [he] at hu
        cases ts with
        | nil => cases hu
        | cons t ts =>
          cases t with
          | same =>
            cases hT with
            | skip hT => exact skip (by simpa using hl) hs hT (fun q hq => hok q (by simp [hq])) hu
            | keep hB hT =>
              cases hB with
              | v h => cases h
              | same h => exact skip (by simpa using hl) hs hT (fun q hq => hok q (by simp [hq])) hu
          | _ => cases hu
      cases p with
      | v => exact plain (by cases ts with | nil => rfl | cons t ts => cases t <;> rfl)
      | c => exact plain (by cases ts with | nil => rfl | cons t ts => cases t <;> rfl)
      | sl T => exact plain (by cases ts with | nil => rfl | cons t ts => cases t <;> rfl)
      | el T => exact plain (by cases ts with | nil => rfl | cons t ts => cases t <;> rfl)
      | own e T =>
        cases ts with
        | nil => cases hu
        | cons t ts =>
          cases t with
          | same =>
            cases hT with
            | skip hT => exact skip (by simpa using hl) hs hT (fun q hq => hok q (by simp [hq])) hu
            | keep hB hT =>
              cases hB with
              | v h => cases h
              | same h => exact skip (by simpa using hl) hs hT (fun q hq => hok q (by simp [hq])) hu
          | vec e' T' l' =>
            cases s with
            | hnd o =>
              simp only [updT] at hu
              split at hu
              case h_2 => cases hu
              rename_i y nx2 hu2
              cases hu
              cases hT with
              | keep hB hT =>
                obtain ⟨ν3, hx3, hf3, ho3⟩ := ih (by simpa using hl) (fun j v s hj hk => hs (j + 1) v s (by simpa using hj) (by simpa using hk)) hg2 hT (fun q hq => hok q (by simp [hq])) hu2 hx hf
                cases hB with
                | v h => cases h
                | vec hE hlen h1 =>
                  cases hs 0 _ _ rfl rfl with
                  | hnd _ _ hν _ => exact ⟨ν3, hx3, hf3, ⟨⟨_, _, hx3 _ _ (hx _ _ hν), rfl, hE, hlen⟩, ho3⟩⟩
            | _ => simp only [updT] at hu; cases hu
          | _ => cases hu
      | agg l => exact plain (by cases ts with | nil => rfl | cons t ts => cases t <;> rfl)
      | map K V =>
        cases hT with
        | skip hT =>
          simp only [updT, upd1] at hu
          cases s <;> cases hu
        | keep hB hT => exact keep (by simpa using hl) hs hB hT hok hu
      | ptr ty l =>
        cases hT with
        | skip hT =>
          have hu' : upd1 ob lkc (.ptr ty l) s s .same nx = none := by
            simp only [upd1]
          simp only [updT, hu'] at hu
          cases hu
        | keep hB hT => exact keep (by simpa using hl) hs hB hT hok hu
end Go.Fx
end
section
namespace Go.Fx
open Go Go.RowKit Go.Fl Go.Fl.Lk
variable {S : Sig} {P : Program} {D : Shp S} {ν ν' ν0 ν1 : Nm} {σ τ σ0 σ1 : Hv} {n : Nat} {f : Fr}
variable {w w0 : World} {cx : Cx} {ro : Ro S} {st : AS S} {ms : List HObj} {ob os : Nat → Option (AO S)} {lkc : Nat → Nat → SV S} {oh : Nat → HObj}
theorem inst_f {t : Tr S} {x : FV S} {nx nx' : Nat} {a : List (Nat × AO S)} (h : inst D t nx = some (.f x, a, nx')) : t = .f x := by
  cases t with
  | f y => cases h; rfl
  | same => cases h
  | vec => cases h
  | arr => cases h
  | map => cases h
  | ptr ty ts =>
    simp only [inst] at h
    split at h <;> cases h
  | el => cases h
  | agg ts =>
    simp only [inst] at h
    split at h <;> cases h
theorem inst_ref {t : Tr S} {o nx nx' : Nat} {a : List (Nat × AO S)} (h : inst D t nx = some (.ref o 0, a, nx')) : ∃ ty ts cs a', t = .ptr ty ts ∧ o = nx ∧ insts D ts (nx + 1) = some (cs, a', nx') ∧ a = (nx, .cells ty cs) :: a' := by
  cases t with
  | f y => cases h
  | same => cases h
  | vec => cases h
  | arr => cases h
  | map => cases h
  | ptr ty ts =>
    simp only [inst] at h
    split at h
    · rename_i cs a' nx2 hi
      cases h
      exact ⟨ty, ts, cs, a', rfl, rfl, hi, rfl⟩
    · cases h
  | el => cases h
  | agg ts =>
    simp only [inst] at h
    split at h <;> cases h
theorem backs_len : ∀ {pk : List (PK S)} {is l ss : List (SV S)} {r : List (Tr S) × List Nat × List Nat}, backs ob os lkc pk is l ss = some r → is.length = ss.length
  | [], [], [], [], _, _ => rfl
  | p :: pk, i :: is, o :: l, s :: ss, r, h => by
    simp only [backs] at h
    split at h
    case h_2 => cases h
    rename_i h2
    rw [List.length_cons, List.length_cons, backs_len h2]
mutual
theorem back_ok (hD : D.Ok) (hor : ∀ o a, ob o = some a → ORep D ν σ lkc o a (oh o)) (hor0 : ∀ o ty l, os o = some (.cells ty l) → ∃ b cs, ν0 o = some (.pointer (some ⟨b, 0, none⟩)) ∧ RowS D ν0 σ0 cs l ∧ (blk b ty cs).ok w0)
    (hlk : ∀ o ty l, os o = some (.cells ty l) → ∀ j, lkc o j = l.getD j .dead) (hx : Ext ν0 ν) : ∀ {pk : PK S} {i o s : SV S} {t t0 : Tr S} {tk fz : List Nat} {v0 v1 : Value} {m0 : List HObj} {nx nxi : Nat} {osi tko : List (Nat × AO S)} {msx : List HObj},
    Lay D σ0 t0 v0 m0 → inst D t0 nx = some (i, osi, nxi) → (∀ q ∈ osi, os q.1 = some q.2) → (∀ q ∈ m0, q.ok w0) → SRep D ν0 σ0 v0 i → SRep D ν σ v1 s → (o = .lk → s = i) → back ob os lkc pk i o s = some (t, tk, fz) →
    tko.map (·.1) = tk → (∀ q ∈ tko, ob q.1 = some q.2) → Objs D ν σ lkc tko msx → (∀ o e T l v, o ∈ fz → ob o = some (.vec e T l) → ν o = some v → RepF D σ v (.sl T l)) → ∃ m', LayB D σ t0 t v0 m0 v1 m' ∧ Nilx msx m'
  | .v, i, o, s, t, t0, tk, fz, v0, v1, m0, nx, nxi, osi, tko, msx, hL, hi, hosi, hok, h0, hs, hlo, hb, ht, hq, ho, hf => by
    simp only [back] at hb
    obtain ⟨rfl, hl⟩ := gathV_ok hD hor hs hb hf
    have := tko_nil ht ho
    subst this
    exact ⟨[], .v hl, Nilx.refl _⟩
  | .c, i, o, s, t, t0, tk, fz, v0, v1, m0, nx, nxi, osi, tko, msx, hL, hi, hosi, hok, h0, hs, hlo, hb, ht, hq, ho, hf => by
    simp only [back] at hb
    split at hb
    case h_2 => cases hb
    cases hb
    have h1 := hlo rfl
    subst h1
    have h2 := inst_f hi
    subst h2
    have := tko_nil ht ho
    subst this
    cases hs with
    | f h => exact ⟨[], .same (.f h), Nilx.refl _⟩
  | .sl T, i, o, s, t, t0, tk, fz, v0, v1, m0, nx, nxi, osi, tko, msx, hL, hi, hosi, hok, h0, hs, hlo, hb, ht, hq, ho, hf => by
    simp only [back] at hb
    obtain ⟨rfl, hl⟩ := gathS_ok hD hor hs hb hf
    have := tko_nil ht ho
    subst this
    exact ⟨[], .v hl, Nilx.refl _⟩
  | .el T, i, o, s, t, t0, tk, fz, v0, v1, m0, nx, nxi, osi, tko, msx, hL, hi, hosi, hok, h0, hs, hlo, hb, ht, hq, ho, hf => by
    simp only [back] at hb; cases hb
  | .own e T, i, o, s, t, t0, tk, fz, v0, v1, m0, nx, nxi, osi, tko, msx, hL, hi, hosi, hok, h0, hs, hlo, h, ht, hq, ho, hf => by
    simp only [back] at h
    split at h
    case h_2 => cases h
    rename_i a l hown
    cases h
    rcases ownQ_ok hown with ⟨rfl, rfl, rfl⟩ | ⟨o, rfl, rfl, hob⟩
    · have := tko_nil ht ho
      subst this
      have hv := rep_nils hs
      subst hv
      exact ⟨_, .vec (xs := []) ⟨by simp, fun i x hx => by simp at hx⟩ (by simp) rfl, Nilx.nil e (D.size T)⟩
    · match tko, ht, hq, ho with
      | [q], ht, hq, ho =>
        match msx, ho with
        | [m], ho =>
          obtain ⟨o', a⟩ := q
          simp at ht
          subst ht
          have ha := hq (o', a) (by simp)
          simp only at ha
          rw [hob] at ha; cases ha
          obtain ⟨u, xs, hν, hm, hE, hl⟩ := ho.1
          subst hm
          have hv := rep_hnd hs hν
          subst hv
          have h1 : v1.oneCell' = true := by cases hs with | hnd _ _ _ h => exact h
          exact ⟨_, .vec hE hl h1, Nilx.refl _⟩
  | .map K V, i, o, s, t, t0, tk, fz, v0, v1, m0, nx, nxi, osi, tko, msx, hL, hi, hosi, hok, h0, hs, hlo, h, ht, hq, ho, hf => by
    simp only [back] at h
    split at h
    case h_2 => cases h
    rename_i o1 o2
    cases hb : Nat.beq o1 o2 with
    | false => rw [hb] at h; cases h
    | true =>
      rw [hb] at h
      have hb := Nat.eq_of_beq_eq_true hb
      subst hb
      simp only [cond_true] at h
      split at h
      case h_2 => cases h
      rename_i K' V' F hob
      split at h
      case h_2 => cases h
      rename_i e1 e2 _ _
      cases h
      subst e1 e2
      match tko, ht, hq, ho with
      | [q], ht, hq, ho =>
        match msx, ho with
        | [m], ho =>
          obtain ⟨o', a⟩ := q
          simp at ht
          subst ht
          have ha := hq (o', a) (by simp)
          simp only at ha
          rw [hob] at ha; cases ha
          obtain ⟨b, mm, hν, hm, hF⟩ := ho.1
          subst hm
          have hv := rep_hnd hs hν
          subst hv
          have hv0 : v0 = .map (some b) := by
            cases h0 with
            | hnd _ _ h0 _ =>
              have := hx _ _ h0
              rw [hν] at this; exact (Option.some.inj this).symm
          subst hv0
          exact ⟨_, .map hF, Nilx.refl _⟩
  | .ptr ty pk, i, o, s, t, t0, tk, fz, v0, v1, m0, nx, nxi, osi, tko, msx, hL, hi, hosi, hok, h0, hs, hlo, h, ht, hq, ho, hf => by
    simp only [back] at h
    split at h
    case h_2 => cases h
    rename_i o1 o2
    cases hb : Nat.beq o1 o2 with
    | false => rw [hb] at h; cases h
    | true =>
      rw [hb] at h
      have hb := Nat.eq_of_beq_eq_true hb
      subst hb
      simp only [cond_true] at h
      split at h
      case h_2 => cases h
      rename_i ty0' l0 ty' l hos hob
      cases hb : Nat.beq ty ty' with
      | false => rw [hb] at h; cases h
      | true =>
        rw [hb] at h
        have hb := Nat.eq_of_beq_eq_true hb
        subst hb
        simp only [cond_true] at h
        split at h
        case h_2 => cases h
        rename_i ts a b hg
        cases h
        obtain ⟨ty0, ts0, cs, a', rfl, rfl, hi', rfl⟩ := inst_ref hi
        have h1 := hosi _ (List.mem_cons_self ..)
        simp only at h1
        rw [hos] at h1; cases h1
        obtain ⟨b0, cs', hν0, hrow0, hok0⟩ := hor0 _ _ _ hos
        cases hL with
        | @ptr _ _ b2 cs0 m0 hL h1 =>
          obtain ⟨b3, hb3, hν3⟩ := rep_ref0 h0
          cases hb3
          rw [hν0] at hν3; cases hν3
          have he := blk_inj hok0 (hok _ (List.mem_cons_self ..)) rfl
          subst he
          obtain ⟨b4, hb4, hν4⟩ := rep_ref0 hs
          subst hb4
          rw [hx _ _ hν0] at hν4; cases hν4
          match tko, ht, hq, ho with
          | q :: tko, ht, hq, ho =>
            match msx, ho with
            | m :: msx, ho =>
              obtain ⟨o', ao⟩ := q
              injection ht with h1 h2
              simp only at h1
              subst h1
              have ha := hq (o', ao) (by simp)
              simp only at ha
              rw [hob] at ha; cases ha
              obtain ⟨b', cs2, hν, hm, hrow⟩ := ho.1
              subst hm
              rw [hx _ _ hν0] at hν; cases hν
              obtain ⟨m', hl, hxx⟩ := backs_ok hD hor hor0 hlk hx (pk := pk) hL hi' (fun q hq => hosi q (by simp [hq])) (fun q hq => hok q (by simp [hq])) hrow0.1 hrow0.2.1 hrow.1 hrow.2.1 (fun j hj => by
                have h5 := resL_lk (g := lkc o') (k := 0) hj
                rw [Nat.zero_add] at h5
                rw [h5, hlk _ _ _ hos j]
                have hjl : j < l0.length := by
                  rw [← hrow0.1]
                  have := backs_len hg
                  rw [← hrow0.1] at this
                  rw [this]; exact lt_of_getq h5
                rw [List.getD_eq_getElem?_getD, List.getElem?_eq_getElem hjl]; rfl) hg h2 (fun q hq' => hq q (by simp [hq'])) ho.2 hf
              exact ⟨_, .ptr hl hrow.2.2, Nilx.append (Nilx.refl [_]) hxx⟩
  | .agg pk, i, o, s, t, t0, tk, fz, v0, v1, m0, nx, nxi, osi, tko, msx, hL, hi, hosi, hok, h0, hs, hlo, h, ht, hq, ho, hf => by
    simp only [back] at h; cases h
theorem backs_ok (hD : D.Ok) (hor : ∀ o a, ob o = some a → ORep D ν σ lkc o a (oh o)) (hor0 : ∀ o ty l, os o = some (.cells ty l) → ∃ b cs, ν0 o = some (.pointer (some ⟨b, 0, none⟩)) ∧ RowS D ν0 σ0 cs l ∧ (blk b ty cs).ok w0)
    (hlk : ∀ o ty l, os o = some (.cells ty l) → ∀ j, lkc o j = l.getD j .dead) (hx : Ext ν0 ν) : ∀ {pk : List (PK S)} {is l ss : List (SV S)} {ts t0s : List (Tr S)} {tk fz : List Nat} {vs0 vs1 : List Value} {m0 : List HObj} {nx nxi : Nat} {osi tko : List (Nat × AO S)} {msx : List HObj},
    LayL D σ0 t0s vs0 m0 → insts D t0s nx = some (is, osi, nxi) → (∀ q ∈ osi, os q.1 = some q.2) → (∀ q ∈ m0, q.ok w0) → vs0.length = is.length → (∀ (j : Nat) v s, vs0[j]? = some v → is[j]? = some s → SRep D ν0 σ0 v s) →
    vs1.length = ss.length → (∀ (j : Nat) v s, vs1[j]? = some v → ss[j]? = some s → SRep D ν σ v s) → (∀ (j : Nat), l[j]? = some .lk → ss[j]? = is[j]?) → backs ob os lkc pk is l ss = some (ts, tk, fz) →
    tko.map (·.1) = tk → (∀ q ∈ tko, ob q.1 = some q.2) → Objs D ν σ lkc tko msx → (∀ o e T l v, o ∈ fz → ob o = some (.vec e T l) → ν o = some v → RepF D σ v (.sl T l)) → ∃ m', LayBL D σ t0s ts vs0 m0 vs1 m' ∧ Nilx msx m'
  | [], is, l, ss, ts, t0s, tk, fz, vs0, vs1, m0, nx, nxi, osi, tko, msx, hL, hi, hosi, hok, hl0, h0, hl1, hs, hlo, hb, ht, hq, ho, hf => by
    cases is with
    | cons => cases hb
    | nil =>
      cases l with
      | cons => cases hb
      | nil =>
        cases ss with
        | cons => cases hb
        | nil =>
          cases hb
          have := tko_nil ht ho
          subst this
          have h2 := List.eq_nil_of_length_eq_zero hl0
          subst h2
          have h3 := List.eq_nil_of_length_eq_zero hl1
          subst h3
          cases hL
          exact ⟨[], .nil, Nilx.refl _⟩
  | p :: pk, is, l, ss, ts, t0s, tk, fz, vs0, vs1, m0, nx, nxi, osi, tko, msx, hL, hi, hosi, hok, hl0, h0, hl1, hs, hlo, hb, ht, hq, ho, hf => by
    cases is with
    | nil => cases hb
    | cons i is =>
      cases l with
      | nil => cases hb
      | cons o l =>
        cases ss with
        | nil => cases hb
        | cons s ss =>
          cases hL with
          | nil => cases hl0
          | @cons t0 t0s v0 vs0 a0 m0 hL hLL =>
            cases vs1 with
            | nil => cases hl1
            | cons v1 vs1 =>
              simp only [backs] at hb
              split at hb
              case h_2 => cases hb
              rename_i t a b ts' a' b' hb1 hb2
              cases hb
              simp only [insts] at hi
              split at hi
              case h_2 => cases hi
              rename_i i' osa nx1 hi1
              split at hi
              case h_2 => cases hi
              rename_i is' osb nx2 hi2
              cases hi
              obtain ⟨tko1, tko2, rfl, ht1, ht2⟩ := List.map_eq_append_iff.1 ht
              obtain ⟨m1, m2, rfl, ho1, ho2⟩ := ho.split
              obtain ⟨x1, hB1, hx1⟩ := back_ok hD hor hor0 hlk hx (pk := p) hL hi1 (fun q hq => hosi q (by simp [hq])) (fun q hq => hok q (by simp [hq])) (h0 0 v0 i rfl rfl) (hs 0 v1 s rfl rfl) (fun h => by
                subst h
                have := hlo 0 rfl
                simpa using this) hb1 ht1 (fun q hq' => hq q (by simp [hq'])) ho1 (fun o e T l v hm => hf o e T l v (by simp [hm]))
              obtain ⟨x2, hB2, hx2⟩ := backs_ok hD hor hor0 hlk hx (pk := pk) hLL hi2 (fun q hq => hosi q (by simp [hq])) (fun q hq => hok q (by simp [hq])) (by simpa using hl0) (fun j v s hj hk => h0 (j + 1) v s (by simpa using hj) (by simpa using hk))
                (by simpa using hl1) (fun j v s hj hk => hs (j + 1) v s (by simpa using hj) (by simpa using hk)) (fun j hj => by simpa using hlo (j + 1) (by simpa using hj)) hb2 ht2 (fun q hq' => hq q (by simp [hq'])) ho2 (fun o e T l v hm => hf o e T l v (by simp [hm]))
              exact ⟨_, .cons hB1 hB2, Nilx.append hx1 hx2⟩
end
/-- The arguments that come back, where the function ends. -/
theorem backT_ok (hD : D.Ok) (hor : ∀ o a, ob o = some a → ORep D ν σ lkc o a (oh o)) (hor0 : ∀ o ty l, os o = some (.cells ty l) → ∃ b cs, ν0 o = some (.pointer (some ⟨b, 0, none⟩)) ∧ RowS D ν0 σ0 cs l ∧ (blk b ty cs).ok w0)
    (hlk : ∀ o ty l, os o = some (.cells ty l) → ∀ j, lkc o j = l.getD j .dead) (hx : Ext ν0 ν) (hsub : Sub σ0 σ) : ∀ {pk : List (PK S)} {is : List (SV S)} {ts t0s : List (Tr S)} {tk fz : List Nat} {vs : List Value} {m0 : List HObj} {nx nxi : Nat} {osi tko : List (Nat × AO S)} {msx : List HObj},
    LayL D σ0 t0s vs m0 → insts D t0s nx = some (is, osi, nxi) → (∀ q ∈ osi, os q.1 = some q.2) → (∀ q ∈ m0, q.ok w0) → vs.length = is.length → (∀ (j : Nat) v s, vs[j]? = some v → is[j]? = some s → SRep D ν0 σ0 v s) → backT ob os lkc pk is = some (ts, tk, fz) →
    tko.map (·.1) = tk → (∀ q ∈ tko, ob q.1 = some q.2) → Objs D ν σ lkc tko msx → (∀ o e T l v, o ∈ fz → ob o = some (.vec e T l) → ν o = some v → RepF D σ v (.sl T l)) → ∃ m', LayT D σ t0s ts vs m0 m' ∧ Nilx msx m' := by
  intro pk
  induction pk with
  | nil =>
    intro is ts t0s tk fz vs m0 nx nxi osi tko msx hL hi hosi hok hl0 h0 hb ht hq ho hf
    cases is with
    | cons => cases hb
    | nil =>
      cases hb
      have := tko_nil ht ho
      subst this
      have h2 := List.eq_nil_of_length_eq_zero hl0
      subst h2
      cases hL
      exact ⟨[], .nil, Nilx.refl _⟩
  | cons p pk ih =>
    intro is ts t0s tk fz vs m0 nx nxi osi tko msx hL hi hosi hok hl0 h0 hb ht hq ho hf
    cases is with
    | nil => cases p <;> cases hb
    | cons i is =>
      cases hL with
      | nil => cases hl0
      | @cons t0 t0s v0 vs0 a0 m0 hL hLL =>
        simp only [insts] at hi
        split at hi
        case h_2 => cases hi
        rename_i i' osa nx1 hi1
        split at hi
        case h_2 => cases hi
        rename_i is' osb nx2 hi2
        cases hi
        have rest : ∀ {ts : List (Tr S)} {tk fz : List Nat} {tko : List (Nat × AO S)} {msx : List HObj}, backT ob os lkc pk is = some (ts, tk, fz) → tko.map (·.1) = tk → (∀ q ∈ tko, ob q.1 = some q.2) → Objs D ν σ lkc tko msx →
            (∀ o e T l v, o ∈ fz → ob o = some (.vec e T l) → ν o = some v → RepF D σ v (.sl T l)) → ∃ m', LayT D σ t0s ts vs0 m0 m' ∧ Nilx msx m' := fun hb ht hq ho hf =>
          ih hLL hi2 (fun q hq => hosi q (by simp [hq])) (fun q hq => hok q (by simp [hq])) (by simpa using hl0) (fun j v s hj hk => h0 (j + 1) v s (by simpa using hj) (by simpa using hk)) hb ht hq ho hf
        have plain : backT ob os lkc (p :: pk) (i :: is) = (match backT ob os lkc pk is with
            | some (ts, a, b) => some (.same :: ts, a, b)
            | none => none) → ∃ m', LayT D σ (t0 :: t0s) ts (v0 :: vs0) (a0 ++ m0) m' ∧ Nilx msx m' := by
          intro he
          rw [he] at hb
          split at hb
          case h_2 => cases hb
          rename_i ts' a b hb'
          cases hb
          obtain ⟨m', h1, h2⟩ := rest hb' ht hq ho hf
          exact ⟨m', .skip h1, h2⟩
        have keep : backT ob os lkc (p :: pk) (i :: is) = (match back ob os lkc p i .dead i, backT ob os lkc pk is with
            | some (t, a, b), some (ts, a', b') => some (t :: ts, a ++ a', b ++ b')
            | _, _ => none) → ∃ m', LayT D σ (t0 :: t0s) ts (v0 :: vs0) (a0 ++ m0) m' ∧ Nilx msx m' := by
          intro he
          rw [he] at hb
          split at hb
          case h_2 => cases hb
          rename_i t a b ts' a' b' hb1 hb2
          cases hb
          obtain ⟨tko1, tko2, rfl, ht1, ht2⟩ := List.map_eq_append_iff.1 ht
          obtain ⟨m1, m2, rfl, ho1, ho2⟩ := ho.split
          obtain ⟨x1, hB1, hx1⟩ := back_ok hD hor hor0 hlk hx (pk := p) hL hi1 (fun q hq => hosi q (by simp [hq])) (fun q hq => hok q (by simp [hq])) (h0 0 v0 i rfl rfl) ((h0 0 v0 i rfl rfl).mono hx hsub) (fun h => by cases h) hb1 ht1 (fun q hq' => hq q (by simp [hq'])) ho1 (fun o e T l v hm => hf o e T l v (by simp [hm]))
          obtain ⟨x2, hB2, hx2⟩ := rest hb2 ht2 (fun q hq' => hq q (by simp [hq'])) ho2 (fun o e T l v hm => hf o e T l v (by simp [hm]))
          exact ⟨_, .keep hB1 hB2, Nilx.append hx1 hx2⟩
        cases p with
        | v => exact plain rfl
        | c => exact plain rfl
        | sl T => exact plain rfl
        | el T => exact plain rfl
        | own e T => exact plain rfl
        | agg l => exact plain rfl
        | map K V => exact keep rfl
        | ptr ty l => exact keep rfl
end Go.Fx
end
section
namespace Go.Fx
open Go Go.RowKit Go.Fl Go.Fl.Lk
variable {S : Sig} {P : Program} {D : Shp S} {ν ν' ν0 ν1 : Nm} {σ τ σ0 σ1 : Hv} {n : Nat} {f : Fr}
variable {w w0 : World} {cx : Cx} {ro : Ro S} {st : AS S} {ms : List HObj}
def retV : List Value → Value
  | [v] => v
  | l => .tuple l.toArray
/-- A function that is entered when it is called. -/
def Ent (P : Program) (g : Nat) : Prop := ∀ args w, (callFunc g args).run P w = .ok (.enter g args) w
/-- What comes of a call. -/
def Back (D : Shp S) (σ : Hv) (w : World) (args : List (Tr S)) (vals : List Value) (ins : List HObj) (K : List (Tr S) → List (Tr S) → Prop) (e : Ending) (w1 : World) : Prop :=
  ∃ rets outs rv σ1 msr mso, e = .returned (retV rv) ∧ K rets outs ∧ LayL D σ1 rets rv msr ∧ LayT D σ1 args outs vals ins mso ∧ St ⟨w, σ, feet ins⟩ w1 σ1 (msr ++ mso)
/-- A function does what its contract says. -/
def Meets (P : Program) (D : Shp S) (g : Nat) (c : Con S) : Prop :=
  ∀ args K, c.m args K → ∀ (w : World) (σ : Hv) (vals : List Value) (ins : List HObj), Glb D σ → LayL D σ args vals ins → St ⟨w, σ, feet ins⟩ w σ ins → Calls P g vals.toArray w (Back D σ w args vals ins K)
structure EvOk (E : Ev S) : Prop where
  hP : E.D.OkP E.P
  mix : E.P.follows .mixedOrders = true
  con : ∀ g c, E.con g = some c → Ent E.P g ∧ Meets E.P E.D g c
  inl : ∀ g, E.inl g = true → Ent E.P g
/-! Results. -/
theorem run_load_of {t : TypeId} {x : Operand} {r : Operand → Value} {v : Value} {oo : Oper} (hoo : oo.op = .load t x) (h : (execOp r oo).run P w = .ok (.value v) w) (a : Addr) (ha : r x = .pointer (some a)) : (loadVar t a).run P w = .ok v w := by
  simp only [execOp, hoo, ha, Instr.loadAt, Instr.sureAddr, Sem.run_bind, Sem.run_pure, Result.andThen_ok] at h
  cases hr : (loadVar t a).run P w with
  | ok u w' =>
    rw [hr] at h
    simp only [Result.andThen_ok, Result.ok.injEq, Next.value.injEq] at h
    rw [h.1, h.2]
  | halt s w' => rw [hr] at h; cases h
theorem mapM_run {α : Type} {g : α → Sem Value} : ∀ {l : List α} {vs : List Value}, vs.length = l.length → (∀ (i : Nat) a v, l[i]? = some a → vs[i]? = some v → (g a).run P w = .ok v w) → (l.mapM g).run P w = .ok vs w
  | [], vs, hl, _ => by
    have := List.eq_nil_of_length_eq_zero hl
    subst this
    simp
  | a :: l, vs, hl, h => by
    cases vs with
    | nil => cases hl
    | cons v vs =>
      have h1 := h 0 a v rfl rfl
      have h2 := mapM_run (g := g) (l := l) (vs := vs) (by simpa using hl) (fun i a v hi hj => h (i + 1) a v (by simpa using hi) (by simpa using hj))
      simp [List.mapM_cons, h1, h2]
def rvS (tmps : Array Value) : ResultVar → Sem Value
  | .tmp t => pure (tmps.getD t undef)
  | .cell a t => asAddr (tmps.getD a undef) >>= fun b => loadVar t b
theorem results_rvS (fn : Func) (tmps : Array Value) : results fn tmps = (fn.results.mapM (rvS tmps) >>= fun vs => pure (if h : vs.size = 1 then vs[0] else .tuple vs)) := by
  unfold results
  congr 1
theorem results_run {fn : Func} {tmps : Array Value} {vs : List Value} (hl : vs.length = fn.results.toList.length) (h : ∀ (i : Nat) a v, fn.results.toList[i]? = some a → vs[i]? = some v → (rvS tmps a).run P w = .ok v w) : (results fn tmps).run P w = .ok (retV vs) w := by
  have h1 := mapM_run hl h
  have h2 : (fn.results.mapM (rvS tmps)).run P w = .ok vs.toArray w := by
    rw [Array.mapM_eq_mapM_toList, map_eq_pure_bind, Sem.run_bind, h1]
    rfl
  rw [results_rvS, Sem.run_bind, h2]
  simp only [Result.andThen_ok, Sem.run_pure]
  rcases vs with _ | ⟨v, _ | ⟨v', vs⟩⟩
  · simp [retV]
  · simp [retV]
  · simp [retV]
theorem res_ok {n : Nat} (hP : D.OkP P) (h : G D cx ν0 ro st f w ν σ ms) : ∀ {l : List ResultVar} {K : List (SV S) → Prop}, resK P D n ro st l K → ∃ (ss : List (SV S)) (vs : List Value), K ss ∧ vs.length = ss.length ∧ vs.length = l.length ∧ (∀ (j : Nat) v s, vs[j]? = some v → ss[j]? = some s → SRep D ν σ v s) ∧
    ∀ (i : Nat) a v, l[i]? = some a → vs[i]? = some v → (rvS (mk n f).tmps a).run P w = .ok v w := by
  obtain ⟨oh, kn, hms⟩ := h.kn (n := n)
  have put : ∀ {l : List ResultVar} {K : List (SV S) → Prop} {r : ResultVar} {s : SV S} {v : Value}, SRep D ν σ v s → (rvS (mk n f).tmps r).run P w = .ok v w →
      (∃ (ss : List (SV S)) (vs : List Value), K (s :: ss) ∧ vs.length = ss.length ∧ vs.length = l.length ∧ (∀ (j : Nat) v s, vs[j]? = some v → ss[j]? = some s → SRep D ν σ v s) ∧ ∀ (i : Nat) a v, l[i]? = some a → vs[i]? = some v →
        (rvS (mk n f).tmps a).run P w = .ok v w) →
      ∃ (ss : List (SV S)) (vs : List Value), K ss ∧ vs.length = ss.length ∧ vs.length = (r :: l).length ∧ (∀ (j : Nat) v s, vs[j]? = some v → ss[j]? = some s → SRep D ν σ v s) ∧ ∀ (i : Nat) a v, (r :: l)[i]? = some a → vs[i]? = some v →
        (rvS (mk n f).tmps a).run P w = .ok v w := by
    intro l K r s v hs hr hx
    obtain ⟨ss, vs, h1, h2, h3, h4, h5⟩ := hx
    refine ⟨s :: ss, v :: vs, h1, by simp [h2], by simp [h3], fun j v' s' hj hk => ?_, fun i a v' hi hj => ?_⟩
    · cases j with
      | zero => simp at hj hk; subst hj hk; exact hs
      | succ j => exact h4 j v' s' (by simpa using hj) (by simpa using hk)
    · cases i with
      | zero => simp at hi hj; subst hi hj; exact hr
      | succ i => exact h5 i a v' (by simpa using hi) (by simpa using hj)
  intro l
  induction l with
  | nil => intro K hk; exact ⟨[], [], hk, rfl, rfl, fun j v s hj => by simp at hj, fun i a v hi => by simp at hi⟩
  | cons r l ih =>
    intro K hk
    cases r with
    | tmp t =>
      simp only [resK] at hk
      refine put (r := .tmp t) (kn.e (.tmp t)) ?_ (ih hk)
      unfold rvS; rw [Sem.run_pure, res_ev rfl]
    | cell t ty =>
      simp only [resK] at hk
      obtain ⟨rd, s, v, hK, hs, hrun⟩ := pure_ok hP kn hk
      have hr := hrun w ⟨none, .load ty (.tmp t), 0, default, #[], none⟩ rfl h.mem.view (fun o _ a ha => h.mem.own _ (hms o a ha))
      refine put (r := .cell t ty) hs ?_ (ih hK)
      obtain ⟨a, ha⟩ : ∃ a, ev n f (.tmp t) = .pointer (some a) := by
        have hsr := kn.e (.tmp t)
        simp only [pureOp] at hk
        generalize evS n ro st (.tmp t) = sv at hk hsr
        generalize ev n f (.tmp t) = u at hsr
        cases hsr with
        | ref o off b h => exact ⟨_, rfl⟩
        | eref T o i off b m cap h hi => exact ⟨_, rfl⟩
        | aref T N o i off b h hi => exact ⟨_, rfl⟩
        | fptr ad cs l off h hr => exact ⟨_, rfl⟩
        | fap ad cs T N l hN h hl hr => exact ⟨_, rfl⟩
        | _ => exact hk.elim
      have h2 := run_load_of rfl hr a ha
      have h3 := res_ev (n := n) (f := f) ha
      simp only [rvS, h3, asAddr, Sem.run_bind, Sem.run_pure, Result.andThen_ok, h2]
theorem tup_ok {ss : List (SV S)} {vs : List Value} (hl : vs.length = ss.length) (h : ∀ (j : Nat) v s, vs[j]? = some v → ss[j]? = some s → SRep D ν σ v s) : SRep D ν σ (retV vs) (tupS ss) := by
  rcases ss with _ | ⟨s, _ | ⟨s', ss⟩⟩
  · have := List.eq_nil_of_length_eq_zero hl
    subst this
    exact .tup [] [] rfl h
  · rcases vs with _ | ⟨v, _ | ⟨v', vs⟩⟩
    · cases hl
    · exact h 0 v s rfl rfl
    · simp at hl
  · rcases vs with _ | ⟨v, _ | ⟨v', vs⟩⟩
    · cases hl
    · simp at hl
    · exact .tup _ _ hl h
/-! A call of a function whose contract is known. -/
theorem run_value {g : FuncId} {fo : Operand} {args : Array Operand} {ts : Array TypeId} {a b : List Value} {o : Oper} (ho : o.op = .call ⟨.value fo, args, ts⟩) (hf : ev n f fo = .func (.func g) a.toArray b.toArray) (hg : Ent P g) :
    (execOp (ev n f) o).run P w = .ok (.enter g (a ++ args.toList.map (ev n f) ++ b).toArray) w := by
  have hx : (a.toArray ++ args.map (ev n f) ++ b.toArray) = (a ++ args.toList.map (ev n f) ++ b).toArray := by
    apply Array.ext'
    simp
  rw [← hx]
  simp [execOp, ho, resolve, hf, Deferred.ofValue, invoke]
  exact hg _ w
theorem names_rw : ∀ {l : List Nat}, inRw st l = true → ∃ tlo : List (Nat × AO S), tlo.map (·.1) = l ∧ ∀ q ∈ tlo, obS ro st q.1 = some q.2
  | [], _ => ⟨[], rfl, by simp⟩
  | o :: l, h => by
    obtain ⟨h1, h2⟩ := and_b h
    obtain ⟨a, ha⟩ := Option.isSome_iff_exists.1 h1
    obtain ⟨tlo, h3, h4⟩ := names_rw h2
    refine ⟨(o, a) :: tlo, by simp [h3], fun q hq => ?_⟩
    rcases List.mem_cons.1 hq with rfl | hq
    · unfold obS; rw [ha]
    · exact h4 q hq
theorem inRw_append : ∀ {l l' : List Nat}, inRw st (l ++ l') = (inRw st l && inRw st l')
  | [], _ => by simp [inRw]
  | o :: l, l' => by
    simp only [List.cons_append, inRw, inRw_append, Bool.and_assoc]
theorem full_ok {vs a b : List Value} {first cap ss : List (SV S)} (hl : a.length = first.length) (h : ∀ (j : Nat) v s, a[j]? = some v → first[j]? = some s → SRep D ν σ v s) (hl' : b.length = cap.length) (h' : ∀ (j : Nat) v s, b[j]? = some v → cap[j]? = some s → SRep D ν σ v s)
    (hm : vs.length = ss.length) (hm' : ∀ (j : Nat) v s, vs[j]? = some v → ss[j]? = some s → SRep D ν σ v s) : (a ++ vs ++ b).length = (first ++ ss ++ cap).length ∧ ∀ (j : Nat) v s, (a ++ vs ++ b)[j]? = some v → (first ++ ss ++ cap)[j]? = some s → SRep D ν σ v s := by
  refine ⟨by simp [hl, hl', hm], fun j v s hj hk => ?_⟩
  have e : (a ++ vs).length = (first ++ ss).length := by simp [hl, hm]
  rw [List.getElem?_append] at hj hk
  rw [e] at hj
  split at hj
  · rename_i hlt
    rw [if_pos hlt] at hk
    rw [List.getElem?_append] at hj hk
    rw [hl] at hj
    split at hj
    · rename_i hlt2
      rw [if_pos hlt2] at hk
      exact h j v s hj hk
    · rename_i hge
      rw [if_neg hge] at hk
      exact hm' _ v s hj hk
  · rename_i hge
    rw [if_neg hge] at hk
    exact h' _ v s hj hk
/-- A view without some blocks. -/
def lessV (σ : Hv) (bs : List Nat) : Hv := fun b => if b ∈ bs then none else σ b
/-- Lists that were handed over to be read are the caller's own again. -/
theorem st_thaw {w1 : World} {σ1 σ2 : Hv} {i1 i1' i2 outs m1 : List HObj} (h : St ⟨w, σ, feet (i1 ++ i2)⟩ w σ (i1' ++ i2)) (hc : St ⟨w, σ1, feet i1'⟩ w1 σ2 outs) (h4 : St ⟨w, σ, feet (i1 ++ i2)⟩ w1 σ2 (outs ++ m1)) :
    St ⟨w, σ, feet (i1 ++ i2)⟩ w1 (lessV σ2 (feet i2)) (outs ++ i2) ∧ Sub σ (lessV σ2 (feet i2)) := by
  have hsep := List.pairwise_append.1 h.sep
  have hsub : Sub σ (lessV σ2 (feet i2)) := fun b o hb => by
    unfold lessV
    rw [if_neg fun hm => ?_]
    · exact h4.sub b o hb
    · obtain ⟨q, hq, hk⟩ := mem_feet.1 hm
      have := h.off q (by simp [hq]) b hk
      rw [this] at hb; cases hb
  have hfar : ∀ q ∈ i2, ∀ k, q.foot = some k → k ∉ feet i1' := fun q hq k hk hm => by
    obtain ⟨p, hp, hpk⟩ := mem_feet.1 hm
    exact hsep.2.2 p hp q hq k hpk hk
  have hsz : ∀ q ∈ i2, ∀ k, q.foot = some k → k < w.heap.size := fun q hq k hk => q.lt w k (h.own q (by simp [hq])) hk
  have hsep4 := List.pairwise_append.1 h4.sep
  refine ⟨⟨h4.keeps, fun b o hb => ?_, hsub, fun b hb hm => ?_, fun o ho => ?_, List.pairwise_append.2 ⟨hsep4.1, hsep.2.1, fun a ha b hb k hk hk' => ?_⟩, fun o ho k hk => ?_, fun o ho k hk => ?_⟩, hsub⟩
  · unfold lessV at hb
    split at hb
    · cases hb
    · exact h4.view b o hb
  · unfold lessV
    rw [if_neg fun hx => ?_]
    · exact h4.fresh b hb hm
    · obtain ⟨q, hq, hk⟩ := mem_feet.1 hx
      exact hm (mem_feet.2 ⟨q, by simp [hq], hk⟩)
  · rcases List.mem_append.1 ho with ho | ho
    · exact h4.own o (by simp [ho])
    · exact o.stay w w1 (fun k hk => hc.keeps.block k (hsz o ho k hk) (hfar o ho k hk)) (h.own o (by simp [ho]))
  · have hk1 : k < w.heap.size := hsz b hb k hk'
    rcases hc.new a ha k hk with h5 | h5
    · exact hfar b hb k hk' h5
    · exact absurd hk1 (Nat.not_lt.2 h5)
  · unfold lessV
    rcases List.mem_append.1 ho with ho | ho
    · split
      · rfl
      · exact h4.off o (by simp [ho]) k hk
    · rw [if_pos (mem_feet.2 ⟨o, ho, hk⟩)]
  · rcases List.mem_append.1 ho with ho | ho
    · exact h4.new o (by simp [ho]) k hk
    · exact .inl (mem_feet.2 ⟨o, by simp [ho], hk⟩)
theorem keptQ_eq {ob : Nat → Option (AO S)} : ∀ {l : List Nat} {tlo : List (Nat × AO S)}, tlo.map (·.1) = l → (∀ q ∈ tlo, ob q.1 = some q.2) → keptQ ob l = some tlo
  | [], tlo, h, _ => by
    have := List.map_eq_nil_iff.1 h
    subst this; rfl
  | o :: l, [], h, _ => by cases h
  | o :: l, q :: tlo, h, hq => by
    obtain ⟨o', a⟩ := q
    simp only [List.map_cons, List.cons.injEq] at h
    obtain ⟨rfl, h⟩ := h
    have h1 := hq (o', a) (by simp)
    simp only [keptQ, keptQ_eq h fun q hq' => hq q (by simp [hq'])]
    simp only at h1
    rw [h1]
theorem lendQ_or {ob : Nat → Option (AO S)} {rets outs : List (Tr S)} {fz tlo : List (Nat × AO S)} {l : List Nat} (h : tlo.map (·.1) = l) (hq : ∀ q ∈ tlo, ob q.1 = some q.2) :
    lendQ D ob rets outs fz l = fz ∨ (lendQ D ob rets outs fz l = tlo ∧ flatTs D rets = true ∧ flatOs D outs = true) := by
  unfold lendQ
  split
  · exact .inl rfl
  · rename_i l' hl'
    cases hf : flatTs D rets && flatOs D outs with
    | false => exact .inl rfl
    | true =>
      obtain ⟨h1, h2⟩ := and_b hf
      refine .inr ⟨?_, h1, h2⟩
      rw [keptQ_eq h hq]; rfl
theorem step_call {c : Con S} {g : Nat} {fo : Operand} {args : Array Operand} {ts : Array TypeId} {first cap : List (SV S)} {o : Oper} {ban : List Nat → Bool} {k : List Nat → AS S → Prop} (hF : FlatOk D) (hD : D.Ok) (hen : Ent P g) (hM : Meets P D g c) (h : G D cx ν0 ro st f w ν σ ms)
    (ho : o.op = .call ⟨.value fo, args, ts⟩) (hf : evS n ro st fo = .fn g first cap) (hk : callC D c ro st (first ++ args.toList.map (evS n ro st) ++ cap) ban fun st s => putS ro st o.dst s (k [])) : StepOk P D cx ν0 ro st n o f w ν σ ban k := by
  intro KK Q hKK
  obtain ⟨oh, kn, hms⟩ := h.kn (n := n)
  have hfn := kn.e fo
  rw [hf] at hfn
  generalize hfv : ev n f fo = fv at hfn
  cases hfn with
  | fn _ a b _ _ hl ha hl' hb =>
    obtain ⟨hlen, hreps⟩ := full_ok hl ha hl' hb (vs := args.toList.map (ev n f)) (ss := args.toList.map (evS n ro st)) (by simp) (fun j v s hj hk => by
      rw [List.getElem?_map] at hj hk
      rcases hq : args.toList[j]? with _ | x
      · rw [hq] at hj; cases hj
      · rw [hq] at hj hk; cases hj; cases hk; exact kn.e x)
    generalize first ++ args.toList.map (evS n ro st) ++ cap = full at hk hlen hreps
    unfold callC at hk
    obtain ⟨q, hq, hk⟩ := optK_some hk
    obtain ⟨fz, hfz, hk⟩ := optK_some hk
    obtain ⟨hc, hk⟩ := bif_f hk
    obtain ⟨hc, hban⟩ := and_b hc
    obtain ⟨hnd, hrw⟩ := and_b hc
    obtain ⟨t0s, tk, fzl⟩ := q
    simp only at hfz hnd hrw hban hk hq
    rw [inRw_append] at hrw
    obtain ⟨hrw1, hrw2⟩ := and_b hrw
    obtain ⟨tlo1, ht1, hob1⟩ := names_rw (ro := ro) hrw1
    obtain ⟨tlo2, ht2, hob2⟩ := names_rw (ro := ro) hrw2
    have hrun := run_value (w := w) ho hfv hen
    generalize a ++ args.toList.map (ev n f) ++ b = vals at hlen hreps hrun
    have htl : (tlo1 ++ tlo2).map (·.1) = tk ++ fzl := by rw [List.map_append, ht1, ht2]
    obtain ⟨ins, h1, h2, h3⟩ := h.turn htl (nodupQ_ok hnd) (by rw [inRw_append, hrw1, hrw2]; rfl) (fun q hq => by
      rcases List.mem_append.1 hq with hq | hq
      · exact hob1 q hq
      · exact hob2 q hq)
    obtain ⟨i1, i2, rfl, ho1, ho2⟩ := h1.split
    obtain ⟨σ1, m1, hS1, hsub1, hofz⟩ := freeze_all hD hfz ht2 hob2 ho2 h2
    have hor : ∀ o a, obS ro st o = some a → ORep D ν σ1 ro.cell o a (oh o) ∧ (oh o).ok w := fun o a ho => ⟨(kn.o o a ho).1.mono (Ext.refl _) hsub1, (kn.o o a ho).2⟩
    have hreps1 : ∀ (j : Nat) v s, vals[j]? = some v → full[j]? = some s → SRep D ν σ1 v s := fun j v s hj hk => (hreps j v s hj hk).mono (Ext.refl _) hsub1
    obtain ⟨i1', hLay, hNil⟩ := gaths_lay hD (fun o a ho => (hor o a ho).1) hlen hreps1 hq ht1 hob1 (ho1.mono (Ext.refl _) hsub1) (frz_rep hfz hofz)
    have hS2 := hNil _ _ _ _ hS1
    have hcall := hM _ _ hk w σ1 vals i1' (h.glob.2.mono hsub1) hLay hS2.inner
    unfold Oper.wp
    rw [eval_mk, hrun, Oper.upon_enter]
    refine hcall.mono ?_
    rintro e w1 ⟨rets, outs, rv, σ2, msr, mso, rfl, hk, hLr, hLt, hS3⟩
    show KK ((mk n f).put o.dst (retV rv)) w1
    rw [mk_put]
    obtain ⟨u, hu, hk⟩ := optK_some hk
    obtain ⟨r, hr, hk⟩ := optK_some hk
    obtain ⟨uo, un⟩ := u
    obtain ⟨rs, ros, rn⟩ := r
    rw [forceO_eq] at hk
    simp only at hr hk
    have hS4 := hS2.callM hS3 rfl
    have hsub2 := hS3.sub
    simp only at hsub2
    rcases lendQ_or (D := D) (rets := rets) (outs := outs) (fz := fz) ht2 hob2 with he | ⟨he, hflr, hflo⟩
    case inr =>
      rw [he] at hk
      obtain ⟨hT, hsub3⟩ := st_thaw (hNil _ _ _ _ h2) hS3 hS4
      have hLr' := flat_layL (τ := lessV σ2 (feet i2)) hF hflr hLr
      have hLt' := flat_layT (τ := lessV σ2 (feet i2)) hF hflo hLt
      obtain ⟨ν2, hx2, hf2, ho3⟩ := updT_ok (fun o a ho => kn.o o a ho) hlen hreps hq hLt' (fun m hm => (hNil _ _ _ _ h2).own m (by simp [hm])) hu (Ext.refl _) h.fresh
      obtain ⟨ν3, hx3, hf3, hl3, hr3, ho4, _⟩ := insts_ok (lkc := ro.cell) hLr' hr hf2
      obtain ⟨hsub, ⟨ms2, hG⟩, hleft⟩ := h3 (outs := ros ++ (uo ++ tlo2)) (nx := rn) (hx2.trans hx3) hf3 (by rw [List.append_assoc] at hT; exact hT) (ho4.append ((ho3.mono hx3 (Sub.refl _)).append (ho2.mono (hx2.trans hx3) hsub3)))
      have hG' : G D cx ν0 ro { slots := st.slots, objs := ros ++ (uo ++ (tlo2 ++ delNs st.objs (tk ++ fzl))), next := rn } f w1 ν3 (lessV σ2 (feet i2)) ms2 := by
        rw [List.append_assoc, List.append_assoc] at hG
        exact hG
      obtain ⟨st', hk', _, _, hG2⟩ := hG'.put (tup_ok hl3 hr3) hk
      exact hKK [] st' _ w1 ν3 _ ms2 hk' hG2 (hx2.trans hx3) hsub ⟨_, rfl⟩ (.inr ⟨_, hban, hleft⟩)
    rw [he] at hk
    obtain ⟨ν2, hx2, hf2, ho3⟩ := updT_ok hor hlen hreps1 hq hLt (fun m hm => hS2.own m (by simp [hm])) hu (Ext.refl _) h.fresh
    obtain ⟨ν3, hx3, hf3, hl3, hr3, ho4, _⟩ := insts_ok (lkc := ro.cell) hLr hr hf2
    obtain ⟨hsub, ⟨ms2, hG⟩, hleft⟩ := h3 (outs := ros ++ (uo ++ fz)) (nx := rn) (hx2.trans hx3) hf3 (by rw [List.append_assoc] at hS4; exact hS4) (ho4.append ((ho3.mono hx3 (Sub.refl _)).append (hofz.mono (hx2.trans hx3) hsub2)))
    have hG' : G D cx ν0 ro { slots := st.slots, objs := ros ++ (uo ++ (fz ++ delNs st.objs (tk ++ fzl))), next := rn } f w1 ν3 σ2 ms2 := by
      rw [List.append_assoc, List.append_assoc] at hG
      exact hG
    obtain ⟨st', hk', _, _, hG2⟩ := hG'.put (tup_ok hl3 hr3) hk
    exact hKK [] st' _ w1 ν3 σ2 ms2 hk' hG2 (hx2.trans hx3) hsub ⟨_, rfl⟩ (.inr ⟨_, hban, hleft⟩)
end Go.Fx
end
section
namespace Go.Fx
open Go Go.RowKit Go.Fl Go.Fl.Lk
variable {S : Sig} {P : Program} {D : Shp S} {ν ν' ν0 ν1 : Nm} {σ τ σ0 σ1 : Hv} {n : Nat} {f : Fr}
variable {w w0 : World} {cx : Cx} {ro : Ro S} {st : AS S} {ms : List HObj}
theorem mk_defers : (mk n f).defers = [] := by unfold mk; rfl
theorem frl_rep : ∀ {vs : List Value} {ss : List (SV S)}, vs.length = ss.length → (∀ (j : Nat) v s, vs[j]? = some v → ss[j]? = some s → SRep D ν σ v s) → ∀ j, SRep D ν σ (frl vs j) (frlS ss j) := by
  intro vs ss hl h j
  rw [frl_eq]
  unfold frlS
  rw [List.getD_eq_getElem?_getD, List.getD_eq_getElem?_getD]
  rcases Nat.lt_or_ge j ss.length with hlt | hge
  · obtain ⟨v, hv⟩ := getq (l := vs) (k := j) (by omega)
    obtain ⟨s, hs⟩ := getq (l := ss) (k := j) hlt
    rw [hv, hs]
    exact h j v s hv hs
  · rw [List.getElem?_eq_none hge, List.getElem?_eq_none (by omega)]
    exact .und
/-- Into a function's own text. -/
def InlOk (E : Ev S) (inlh : InlH S) (C : Ro S → Prop) : Prop :=
  ∀ {g : Nat} {cx : Cx} {ν0 : Nm} {ro : Ro S} {st : AS S} {f : Fr} {w : World} {ν : Nm} {σ : Hv} {ms : List HObj} {full : List (SV S)} {vals : List Value} {k : AS S → SV S → Prop} {R : Ending → World → Prop}, C ro →
    inlh g full ro st k → G E.D cx ν0 ro st f w ν σ ms → vals.length = full.length → (∀ (j : Nat) v s, vals[j]? = some v → full[j]? = some s → SRep E.D ν σ v s) →
    (∀ st' s v w' ν' σ' ms', k st' s → st'.slots = st.slots → SRep E.D ν' σ' v s → G E.D cx ν0 ro st' f w' ν' σ' ms' → Ext ν ν' → Sub σ σ' → R (.returned v) w') → Calls E.P g vals.toArray w R
theorem step_ok {E : Ev S} (hE : EvOk E) {inlh : InlH S} {C : Ro S → Prop} (hin : InlOk E inlh C) (n : Nat) : StH E inlh n C := by
  intro cx ν0 ro st f w ν σ ms o ban k hro hk h
  unfold stepS at hk
  split at hk
  · rename_i fo args ts ho
    split at hk
    case h_2 => exact hk.elim
    rename_i g first cap hf
    split at hk
    · rename_i c hc
      obtain ⟨hen, hM⟩ := hE.con g c hc
      exact step_call hE.hP.flat hE.hP.ok hen hM h ho hf hk
    · rw [forceL_eq] at hk
      obtain ⟨tko, hpk, hk⟩ := optK_some hk
      obtain ⟨hi, hk⟩ := bif_f hk
      obtain ⟨hi, hban⟩ := and_b hi
      obtain ⟨hi, hnd⟩ := and_b hi
      obtain ⟨htk, hfind⟩ := pickN_ok hpk
      intro KK Q hKK
      have hfn := ev_ok (n := n) h.slots h.glob fo
      rw [hf] at hfn
      generalize hfv : ev n f fo = fv at hfn
      cases hfn with
      | fn _ a b _ _ hl ha hl' hb =>
        obtain ⟨hlen, hreps⟩ := full_ok hl ha hl' hb (vs := args.toList.map (ev n f)) (ss := args.toList.map (evS n ro st)) (by simp) (fun j v s hj hk => by
          rw [List.getElem?_map] at hj hk
          rcases hq : args.toList[j]? with _ | x
          · rw [hq] at hj; cases hj
          · rw [hq] at hj hk; cases hj; cases hk; exact ev_ok h.slots h.glob x)
        have hrun := run_value (w := w) ho hfv (hE.inl g hi)
        generalize reachQ ro st (first ++ args.toList.map (evS n ro st) ++ cap) = tk at hk hnd hban htk
        obtain ⟨ins, rest, hp, h1, h2⟩ := h.objs.takes (tlo := tko) (by rw [htk]; exact nodupQ_ok hnd) hfind
        obtain ⟨r1, r2, rfl, hr1, hr2⟩ := h2.split
        have hS : St cx w σ ((ins ++ r2) ++ r1) := h.mem.perm (hp.trans (by rw [List.append_assoc]; exact List.perm_append_comm.append_left ins))
        have hG1 : G E.D ⟨w, σ, feet (ins ++ r2)⟩ ν0 ro { slots := st.slots, objs := tko, next := st.next } f w ν σ (ins ++ r2) := ⟨hS.inner, h1.append hr2, h.slots, h.fresh, h.ext, h.glob⟩
        unfold Oper.wp
        rw [eval_mk, hrun, Oper.upon_enter]
        refine hin hro hk hG1 hlen hreps fun st' s v w' ν' σ' ms' hk' hsl hs hG hx hsub => ?_
        rw [forceO_eq] at hk'
        show KK ((mk n f).put o.dst v) w'
        rw [mk_put]
        obtain ⟨ma, mb, rfl, hma, hmb⟩ := hG.objs.split
        have hG2 : G E.D cx ν0 ro { slots := st'.slots, objs := st'.objs ++ delNs st.objs tk, next := st'.next } f w' ν' σ' ((ma ++ r1) ++ mb) :=
          ⟨(hS.callM hG.mem rfl).perm (by rw [List.append_assoc, List.append_assoc]; exact List.perm_append_comm.append_left ma), (hma.append (by rw [← htk]; exact hr1.mono hx hsub)).append hmb, hG.slots, hG.fresh, hG.ext, hG.glob⟩
        obtain ⟨st2, hk2, _, _, hG3⟩ := hG2.put hs hk'
        refine hKK [] st2 _ w' ν' σ' _ hk2 hG3 hx hsub ⟨_, rfl⟩ (.inr ⟨_, hban, fun b o a v ho hf hfz hv hbk => ?_⟩)
        rw [List.mem_append, not_or] at ho
        have hnr : findN ro.objs o = none := by
          cases hq : findN ro.objs o with
          | none => rfl
          | some c => exact absurd (List.mem_map.2 ⟨_, findN_mem hq, rfl⟩) ho.2
        have hf1 : findN (delNs st.objs (tko.map (·.1))) o = some a := by
          rw [htk, findN_dels ho.1]
          rw [findN_append, hnr] at hf
          cases hq : findN st.objs o with
          | none => rw [hq] at hf; cases hf
          | some c => rw [hq] at hf; exact hf
        obtain ⟨m, hm, hr⟩ := hr1.find hf1
        have hmo := hS.own m (by simp [hm])
        have hmb' := hr.foot' hmo hfz hv hbk
        refine hG.mem.keeps.block b (m.lt w b hmo hmb') fun hmem => ?_
        obtain ⟨m', hm', hmb2⟩ := mem_feet.1 hmem
        exact (List.pairwise_append.1 hS.sep).2.2 m' hm' m hm b hmb2 hmb'
  · rename_i op hop
    cases hb : isEff (obS ro st) (evS n ro st) o.op with
    | true => rw [hb] at hk; simp only [forceO_eq] at hk; exact step_eff hE.hP h hk
    | false => rw [hb] at hk; exact step_pure hE.hP h hk
theorem at_ok {E : Ev S} (hE : EvOk E) (b : Nat) : EvOk (E.at b) := ⟨hE.hP, hE.mix, hE.con, hE.inl⟩
theorem refQ_ok {a b : SV S} (h : refQ a b = true) : a = b := by
  unfold refQ at h
  split at h
  · obtain ⟨h1, h2⟩ := and_b h
    rw [Nat.eq_of_beq_eq_true h1, Nat.eq_of_beq_eq_true h2]
  · cases h
theorem outItems_lt {nm : Nat} : ∀ {l : List (Item S)}, objLt nm l = true → objLt nm (outItems l) = true
  | [], _ => rfl
  | (.slot j, kd) :: l, h => outItems_lt (l := l) h
  | (.obj o, kd) :: l, h => by
    obtain ⟨h1, h2⟩ := and_b h
    simp only [outItems, objLt, h1, outItems_lt h2, Bool.and_self]
  | (.cell o i, kd) :: l, h => by
    obtain ⟨h1, h2⟩ := and_b h
    simp only [outItems, objLt, h1, outItems_lt h2, Bool.and_self]
theorem RoE.out {sp : Spec S} {νe : Nm} {ro : Ro S} {nm : Nat} (h : RoE D ν0 νe ro sp nm) (hc : sp.cobj = []) : RoE D ν0 νe ro (outSp sp) nm :=
  ⟨h.dom, h.ext, h.slots, h.objs, fun q hq => (by rw [show (outSp sp).cobj = sp.cobj from rfl, hc] at hq; cases hq), h.cobj, outItems_lt h.lt, h.clt⟩
theorem name_lt {lkc : Nat → Nat → SV S} {nx o : Nat} {a : AO S} {m : HObj} (hf : ∀ o, nx ≤ o → ν o = none) (h : ORep D ν σ lkc o a m) : o < nx := by
  have hn : ∃ v, ν o = some v := by
    cases a with
    | cells ty l => obtain ⟨b, cs, h1, _⟩ := h; exact ⟨_, h1⟩
    | vec e T l => obtain ⟨v, xs, h1, _⟩ := h; exact ⟨_, h1⟩
    | frz T l => obtain ⟨v, h1, _⟩ := h; exact ⟨_, h1⟩
    | arr ty T N l => obtain ⟨b, cs, h1, _⟩ := h; exact ⟨_, h1⟩
    | map K V F => obtain ⟨b, m, h1, _⟩ := h; exact ⟨_, h1⟩
    | iter K V F done cur => obtain ⟨r, b, es, clock, cv, h1, _⟩ := h; exact ⟨_, h1⟩
    | siter s pos => obtain ⟨r, h1, _⟩ := h; exact ⟨_, h1⟩
  obtain ⟨v, hv⟩ := hn
  rcases Nat.lt_or_ge o nx with hlt | hge
  · exact hlt
  · rw [hf o hge] at hv; cases hv
theorem objIn_lt {lkc : Nat → Nat → SV S} {nx : Nat} (hf : ∀ o, nx ≤ o → ν o = none) : ∀ {l : List (Item S)} {os : List (Nat × AO S)}, (∀ o a, findN os o = some a → ∃ m, ORep D ν σ lkc o a m) → objIn os l = true → objLt nx l = true
  | [], _, _, _ => rfl
  | (.slot j, kd) :: l, os, hr, h => objIn_lt hf (l := l) hr h
  | (.obj o, kd) :: l, os, hr, h => by
    obtain ⟨h1, h2⟩ := and_b h
    obtain ⟨a, ha⟩ := Option.isSome_iff_exists.1 h1
    obtain ⟨m, hm⟩ := hr o a ha
    simp only [objLt, objIn_lt hf hr h2, Bool.and_true, Nat.blt_eq]
    exact name_lt hf hm
  | (.cell o i, kd) :: l, os, hr, h => by
    obtain ⟨h1, h2⟩ := and_b h
    obtain ⟨a, ha⟩ := Option.isSome_iff_exists.1 h1
    obtain ⟨m, hm⟩ := hr o a ha
    simp only [objLt, objIn_lt hf hr h2, Bool.and_true, Nat.blt_eq]
    exact name_lt hf hm
/-- A frame with locked slots, entered. -/
theorem G.lockF {sp : Spec S} {ro1 ro' : Ro S} {full full' : List (SV S)} {vals : List Value} (h : G D cx ν0 ro' st f w ν σ ms) (ho : ro'.objs = ro1.objs) (hc : ro'.cell = ro1.cell) (hgl : ro1.glob = ro'.glob) (hl : ro1.lock = sp.lock)
    (hs : ∀ j, hasN sp.lock j = true → ro1.slots j = frlS full j) (hsame : sp.lock.all (fun j => refQ (frlS full' j) (frlS full j)) = true) (hlen : vals.length = full'.length) (hr : ∀ (j : Nat) v s, vals[j]? = some v → full'[j]? = some s → SRep D ν σ v s) :
    G D ⟨w, σ, feet ms⟩ ν ro1 { slots := frlS full', objs := st.objs, next := st.next } (frl vals) w ν σ ms := by
  have hmem : St cx w σ (ms ++ []) := by rw [List.append_nil]; exact h.mem
  refine ⟨hmem.inner, by have := h.objs; rw [ho, hc] at this; exact this, fun j => ?_, h.fresh, Ext.refl _, ⟨hgl.trans h.glob.1, h.glob.2⟩⟩
  have hj := frl_rep hlen hr j
  show SRep D ν σ _ (bif hasN ro1.lock j then ro1.slots j else frlS full' j)
  rw [hl]
  cases hb : hasN sp.lock j with
  | false => exact hj
  | true =>
    rw [cond_true, hs j hb]
    have : j ∈ sp.lock := by
      refine Classical.byContradiction fun hn => ?_
      rw [hasN_of hn] at hb; cases hb
    rw [← refQ_ok (List.all_eq_true.1 hsame j this)]
    exact hj
theorem inl_ok {E : Ev S} (hE : EvOk E) : ∀ fuel, InlOk E (inlN E fuel) (fun _ => True) := by
  intro fuel
  induction fuel with
  | zero => intro g cx ν0 ro st f w ν σ ms full vals k R _ hk; exact hk.elim
  | succ fuel ih =>
    intro g cx ν0 ro st f w ν σ ms full vals k R _ hk h hlen hreps hR
    simp only [inlN] at hk
    split at hk
    case h_2 => exact hk.elim
    rename_i fn hfn
    split at hk
    case h_2 => exact hk.elim
    rename_i c hc
    obtain ⟨hs, hk⟩ := bif_f hk
    have hmem : St cx w σ (ms ++ []) := by rw [List.append_nil]; exact h.mem
    have hG : G E.D ⟨w, σ, feet ms⟩ ν { slots := fun _ => .dead, lock := [], objs := ro.objs, cell := ro.cell, glob := ro.glob } { slots := frlS full, objs := st.objs, next := st.next } (frl vals) w ν σ ms :=
      ⟨hmem.inner, h.objs, frl_rep hlen hreps, h.fresh, Ext.refl _, h.glob⟩
    split at hk
    · have hR2 : ∀ st' f' w' ν' σ' ms', G E.D ⟨w, σ, feet ms⟩ ν { slots := fun _ => .dead, lock := [], objs := ro.objs, cell := ro.cell, glob := ro.glob } st' f' w' ν' σ' ms' →
          (resK E.P E.D fn.ntmps { slots := fun _ => .dead, lock := [], objs := ro.objs, cell := ro.cell, glob := ro.glob } st' fn.results.toList fun r => k { slots := st.slots, objs := st'.objs, next := st'.next } (tupS r)) →
          ∃ v, (results fn (mk fn.ntmps f').tmps).run E.P w' = .ok v w' ∧ ∃ u, Ending.returned v = .returned u ∧ R (.returned u) w' := by
        intro st' f' w' ν' σ' ms' hG' hk'
        obtain ⟨ss, vs, hk', hl1, hl2, hr1, hr2⟩ := res_ok hE.hP hG' hk'
        refine ⟨retV vs, results_run hl2 hr2, _, rfl, hR _ _ _ w' ν' σ' (ms' ++ []) hk' rfl (tup_ok hl1 hr1) ⟨hmem.callM hG'.mem rfl, ?_, fun j => (h.slots j).mono hG'.ext hG'.mem.sub, hG'.fresh, h.ext.trans hG'.ext, globMono h.glob hG'.mem.sub⟩ hG'.ext hG'.mem.sub⟩
        rw [List.append_nil]; exact hG'.objs
      refine Calls.mono (R := fun e w => ∃ u, e = .returned u ∧ R (.returned u) w) ?_ ?_
      · refine enter hfn hc rfl (by rw [List.size_toArray, hlen]; exact hs) (vc_ok (E := E.at (1000000 * (g + 1))) (C := fun _ => True) (fun _ _ _ _ => trivial) (n := fn.ntmps) hE.hP hE.mix (step_ok (at_ok hE _) ih fn.ntmps) trivial hk hG (fun c a w => ?_) ?_)
        · rintro ⟨_, u, hu, _⟩; cases hu
        · intro e st' f' w' ν' σ' ms' hk' hG'
          cases e with
          | ret =>
            obtain ⟨v, h1, h2⟩ := hR2 _ _ _ _ _ _ hG' hk'
            exact bodyPost_ret h1 mk_defers h2
          | normal =>
            obtain ⟨v, h1, h2⟩ := hR2 _ _ _ _ _ _ hG' hk'
            exact bodyPost_end h1 mk_defers h2
          | _ => exact hk'.elim
      · rintro e w' ⟨u, rfl, hu⟩
        exact hu
    · -- a piece that goes into itself
      rename_i sp _
      obtain ⟨robj, hr, hk⟩ := planK_some hk
      obtain ⟨hcc, hk⟩ := bif_f hk
      obtain ⟨hcc, hres⟩ := and_b hcc
      obtain ⟨hcc, hcob⟩ := and_b hcc
      have hcob : sp.cobj = [] := by simpa using hcob
      have hres : fn.results.toList = [] := by simpa using hres
      have hch := cobjQ_ok hcc
      obtain ⟨ms1, hG1⟩ := hG.enter hch hr
      have hRE := hG1.roE hch
      have hG1' : G E.D ⟨w, σ, feet ms⟩ ν { roOf sp { slots := fun _ => .dead, lock := [], objs := ro.objs, cell := ro.cell, glob := ro.glob } { slots := frlS full, objs := st.objs, next := st.next } robj with stamp := 1 } { slots := frlS full, objs := lockObjs sp (delNs st.objs sp.robj), next := st.next } (frl vals) w ν σ ms1 := ⟨hG1.mem, hG1.objs, hG1.slots, hG1.fresh, hG1.ext, hG1.glob⟩
      have hRE' : RoE E.D ν ν { roOf sp { slots := fun _ => .dead, lock := [], objs := ro.objs, cell := ro.cell, glob := ro.glob } { slots := frlS full, objs := st.objs, next := st.next } robj with stamp := 1 } sp st.next := ⟨hRE.dom, hRE.ext, hRE.slots, hRE.objs, hRE.cells, hRE.cobj, hRE.lt, hRE.clt⟩
      have hlk : ({ roOf sp { slots := fun _ => .dead, lock := [], objs := ro.objs, cell := ro.cell, glob := ro.glob } { slots := frlS full, objs := st.objs, next := st.next } robj with stamp := 1 } : Ro S).lock = sp.lock := rfl
      have hsl : ∀ j, hasN sp.lock j = true → ({ roOf sp { slots := fun _ => .dead, lock := [], objs := ro.objs, cell := ro.cell, glob := ro.glob } { slots := frlS full, objs := st.objs, next := st.next } robj with stamp := 1 } : Ro S).slots j = frlS full j := fun j _ => rfl
      have hleave : ∀ {cx' : Cx} {a : AS S} {f' : Fr} {w' : World} {ν' : Nm} {σ' : Hv} {ms' : List HObj}, G E.D cx' ν { roOf sp { slots := fun _ => .dead, lock := [], objs := ro.objs, cell := ro.cell, glob := ro.glob } { slots := frlS full, objs := st.objs, next := st.next } robj with stamp := 1 } a f' w' ν' σ' ms' → G E.D cx' ν { slots := fun _ => .dead, lock := [], objs := ro.objs, cell := ro.cell, glob := ro.glob } (merge sp { slots := frlS full, objs := st.objs, next := st.next } robj a) f' w' ν' σ' ms' := by
        intro cx' a f' w' ν' σ' ms' hg
        exact G.leave hch hr ⟨hg.mem, hg.objs, hg.slots, hg.fresh, hg.ext, hg.glob⟩
      generalize hro1 : ({ roOf sp { slots := fun _ => .dead, lock := [], objs := ro.objs, cell := ro.cell, glob := ro.glob } { slots := frlS full, objs := st.objs, next := st.next } robj with stamp := 1 } : Ro S) = ro1 at hk hG1' hRE' hlk hsl hleave
      have hst1 : ro1.stamp = 1 := by rw [← hro1]
      obtain ⟨t0, ν2, σ2, ms2, hL, hG2⟩ := endI_ok hE.hP.ok hRE' hG1' hk
      have main := hL (fun nm t Y => ∀ (cx : Cx) (ν0 νe : Nm) (vals : List Value) (w : World) (ν : Nm) (σ : Hv) (ms : List HObj), Nat.ble vals.toArray.size fn.ntmps = true → RoE E.D ν0 νe ro1 sp nm → G E.D cx ν0 ro1 (stOf E.D sp nm t) (frl vals) w ν σ ms →
        Calls E.P g vals.toArray w fun e w' => ∃ u v f' ν' σ' ms', e = .returned v ∧ SRep E.D ν' σ' v (.tup []) ∧ Y u ∧ G E.D cx ν0 ro1 (stOf E.D (outSp sp) nm u) f' w' ν' σ' ms') (fun nm t Y hb cx ν0 νe vals w ν σ ms hsz hRE hG => ?_)
      · refine Calls.mono (main ⟨w, σ, feet ms⟩ ν ν vals w ν2 σ2 ms2 (by rw [List.size_toArray, hlen]; exact hs) hRE' hG2) ?_
        rintro e w' ⟨u, v, f', ν', σ', ms', rfl, hv, hu, hGu⟩
        have hGl := hleave hGu
        refine hR _ _ v w' ν' σ' (ms' ++ []) hu rfl hv ⟨hmem.callM hGl.mem rfl, ?_, fun j => (h.slots j).mono hGl.ext hGl.mem.sub, hGl.fresh, h.ext.trans hGl.ext, globMono h.glob hGl.mem.sub⟩ hGl.ext hGl.mem.sub
        rw [List.append_nil]
        exact hGl.objs
      · -- the body
        have hin : InlOk E (hndl E.D g sp ro1 full fun nm t Y => ∀ (cx : Cx) (ν0 νe : Nm) (vals : List Value) (w : World) (ν : Nm) (σ : Hv) (ms : List HObj), Nat.ble vals.toArray.size fn.ntmps = true → RoE E.D ν0 νe ro1 sp nm → G E.D cx ν0 ro1 (stOf E.D sp nm t) (frl vals) w ν σ ms →
            Calls E.P g vals.toArray w fun e w' => ∃ u v f' ν' σ' ms', e = .returned v ∧ SRep E.D ν' σ' v (.tup []) ∧ Y u ∧ G E.D cx ν0 ro1 (stOf E.D (outSp sp) nm u) f' w' ν' σ' ms') (fun r => r.stamp = 1 → r = ro1) := by
          intro g' cx ν0 ro' st' f w ν σ ms full' vals k' R hro' hk' h hlen' hreps' hR'
          unfold hndl at hk'
          obtain ⟨hcc', hk'⟩ := bif_f hk'
          obtain ⟨hcc', hoi⟩ := and_b hcc'
          obtain ⟨hcc', hsame⟩ := and_b hcc'
          obtain ⟨hcc', hfl⟩ := and_b hcc'
          obtain ⟨hg', hstm⟩ := and_b hcc'
          have hg' := Nat.eq_of_beq_eq_true hg'
          subst hg'
          have hro' := hro' (Nat.eq_of_beq_eq_true hstm)
          subst hro'
          have hG0 := h.lockF rfl rfl rfl hlk hsl hsame hlen' hreps'
          have hmem' : St cx w σ (ms ++ []) := by rw [List.append_nil]; exact h.mem
          have hRE0 : RoE E.D ν ν ro' sp st'.next := by
            refine ⟨fun o v hv => ?_, Ext.refl ν, fun j hj => ?_, fun q hq => ?_, fun q hq => (by rw [hcob] at hq; cases hq), hRE'.cobj, ?_, fun q hq => (by rw [hcob] at hq; cases hq)⟩
            · rcases Nat.lt_or_ge o st'.next with hlt | hge
              · exact hlt
              · rw [h.fresh o hge] at hv; cases hv
            · have := hG0.slots j
              unfold slotS at this
              rw [hj] at this
              exact ⟨_, _, this⟩
            · obtain ⟨m1, m2, rfl, h1, h2⟩ := h.objs.split
              obtain ⟨m, hm⟩ := h2.mem (o := q.1) (a := q.2) hq
              exact ⟨σ, m, hm⟩
            · refine objIn_lt (D := E.D) (σ := σ) (lkc := ro'.cell) h.fresh (fun o a ha => ?_) hoi
              obtain ⟨m, _, hm⟩ := h.objs.find (o := o) (a := a) (by rw [findN_append, ha])
              exact ⟨m, hm⟩
          obtain ⟨t, ν3, σ3, ms3, ht, hG3⟩ := endI_ok hE.hP.ok hRE0 hG0 hk'
          refine Calls.mono (ht _ ν ν vals w ν3 σ3 ms3 (by rw [List.size_toArray, hlen', Nat.eq_of_beq_eq_true hfl]; exact hs) hRE0 hG3) ?_
          rintro e w' ⟨u, v, f', ν', σ', ms', rfl, hv, hu, hGu⟩
          refine hR' _ _ v w' ν' σ' (ms' ++ []) hu rfl hv ⟨hmem'.callM hGu.mem rfl, ?_, fun j => (h.slots j).mono hGu.ext hGu.mem.sub, hGu.fresh, h.ext.trans hGu.ext, globMono h.glob hGu.mem.sub⟩ hGu.ext hGu.mem.sub
          rw [List.append_nil]; exact hGu.objs
        have hout := hRE.out hcob
        have hfin : ∀ st' f' w' ν' σ' ms', G E.D cx ν0 ro1 st' f' w' ν' σ' ms' → endI E.D ro1 (outSp sp) st' Y →
            ∃ v, (results fn (mk fn.ntmps f').tmps).run E.P w' = .ok v w' ∧ ∃ u v' f' ν' σ' ms', Ending.returned v = .returned v' ∧ SRep E.D ν' σ' v' (.tup []) ∧ Y u ∧ G E.D cx ν0 ro1 (stOf E.D (outSp sp) nm u) f' w' ν' σ' ms' := by
          intro st' f' w' ν' σ' ms' hG' hk'
          obtain ⟨u, ν3, σ3, ms3, hu, hG3⟩ := endI_ok hE.hP.ok hout hG' hk'
          refine ⟨retV [], results_run (by rw [hres]; rfl) (fun i a v hi => by rw [hres] at hi; cases hi), u, _, f', ν3, σ3, ms3, rfl, ?_, hu, hG3⟩
          exact .tup [] [] rfl fun j v s hj => by cases hj
        refine enter hfn hc rfl hsz (vc_ok (E := E.at (1000000 * (g + 1))) (C := fun r => r.stamp = 1 → r = ro1) (fun _ _ _ _ hst => by cases hst) (n := fn.ntmps) hE.hP hE.mix (step_ok (at_ok hE _) hin fn.ntmps) (fun _ => rfl) hb hG (fun c a w => ?_) ?_)
        · rintro ⟨_, u, v, _, _, _, _, hu, _⟩; cases hu
        · intro e st' f' w' ν' σ' ms' hk' hG'
          cases e with
          | ret =>
            obtain ⟨v, h1, h2⟩ := hfin _ _ _ _ _ _ hG' hk'
            exact bodyPost_ret h1 mk_defers h2
          | normal =>
            obtain ⟨v, h1, h2⟩ := hfin _ _ _ _ _ _ hG' hk'
            exact bodyPost_end h1 mk_defers h2
          | _ => exact hk'.elim
theorem step_all {E : Ev S} (hE : EvOk E) (fuel n : Nat) : StH E (inlN E fuel) n (fun _ => True) := step_ok hE (inl_ok hE fuel) n
/-! The whole function. -/
theorem resL_raw : ∀ {l : List (SV S)} {k : Nat}, resL (fun _ => SV.lk) k l = l
  | [], _ => rfl
  | s :: l, k => by
    rw [resL_cons, resL_raw]
    cases s <;> rfl
def roI (D : Shp S) (os : List (Nat × AO S)) : Ro S := { slots := fun _ => .dead, lock := [], objs := [], cell := fun o i => match findN os o with | some (.cells _ l) => l.getD i .dead | _ => .dead, glob := D.glob }
theorem lockP_objs {cs : List (Nat × Nat)} {lkc : Nat → Nat → SV S} : ∀ {os : List (Nat × AO S)} {ms : List HObj}, (∀ q ∈ os, ∀ ty l, q.2 = .cells ty l → ∀ i s, l[i]? = some s → lkc q.1 i = s) → Objs D ν σ (fun _ _ => .lk) os ms → Objs D ν σ lkc (lockP cs os) ms
  | [], ms, _, h => by cases ms with | nil => trivial | cons => exact h.elim
  | (o, a) :: os, ms, hq, h => by
    cases ms with
    | nil => exact h.elim
    | cons m ms =>
      have ih := lockP_objs (cs := cs) (fun q hq' => hq q (by simp [hq'])) h.2
      have h1 := h.1
      cases a with
      | cells ty l =>
        simp only [lockP]
        refine ⟨?_, ih⟩
        obtain ⟨b, vs, e1, e2, e3⟩ := h1
        refine ⟨b, vs, e1, e2, ?_⟩
        rw [lockL_res (h := fun _ => .lk) (fun i s hi => by rw [resL_raw] at hi; rw [Nat.zero_add]; exact hq (o, .cells ty l) (by simp) ty l rfl i s hi)]
        exact e3
      | vec e T l => exact ⟨h1, ih⟩
      | frz T l => exact ⟨h1, ih⟩
      | arr ty T N l => exact ⟨h1, ih⟩
      | map K V F => exact ⟨h1, ih⟩
      | iter K V F done cur => exact ⟨h1, ih⟩
      | siter s pos => exact ⟨h1, ih⟩
theorem fn_ok {E : Ev S} (hE : EvOk E) (fuel g : Nat) (pk rk : List (PK S)) : Meets E.P E.D g ⟨pk, fnVC E fuel g pk rk⟩ := by
  intro args K hm w σ vals ins hgl hL hS
  simp only [fnVC] at hm
  split at hm
  case h_2 => exact hm.elim
  rename_i fn hfn
  split at hm
  case h_2 => exact hm.elim
  rename_i c ss os nx hc hi
  obtain ⟨hs, hm⟩ := bif_f hm
  have hD := hE.hP.ok
  obtain ⟨νi, _, hfr, hlen, hreps, hraw, _, hnm, hnd⟩ := insts_ok (lkc := fun _ _ => .lk) (ν := fun _ => none) hL hi (fun _ _ => rfl)
  have hfind : ∀ q ∈ os, findN os q.1 = some q.2 := fun q hq => findN_of_mem hnd hq
  have hG : G E.D ⟨w, σ, feet ins⟩ νi (roI E.D os) { slots := frlS ss, objs := lockP (consT pk ss (findN os)) os, next := nx } (frl vals) w νi σ ins := by
    refine ⟨hS, ?_, frl_rep hlen hreps, hfr, Ext.refl _, ⟨rfl, hgl⟩⟩
    show Objs E.D νi σ (roI E.D os).cell (lockP (consT pk ss (findN os)) os ++ []) ins
    rw [List.append_nil]
    refine lockP_objs (fun q hq ty l he i s hs => ?_) hraw
    have := hfind q hq
    simp only [roI, this, he, List.getD_eq_getElem?_getD, hs, Option.getD_some]
  have hR : ∀ a f' w' ν' σ' ms', G E.D ⟨w, σ, feet ins⟩ νi (roI E.D os) a f' w' ν' σ' ms' → (resK E.P E.D fn.ntmps (roI E.D os) a fn.results.toList fun r => optK (gaths E.D (obS (roI E.D os) a) (roI E.D os).cell rk r) fun q => optK (backT (obS (roI E.D os) a) (findN os) (roI E.D os).cell pk ss) fun q' =>
      optK (frzs (obS (roI E.D os) a) (q.2.2 ++ q'.2.2)) fun _ => bif nodupQ (q.2.1 ++ q'.2.1 ++ (q.2.2 ++ q'.2.2)) && inRw a (q.2.1 ++ q'.2.1 ++ (q.2.2 ++ q'.2.2)) then K q.1 q'.1 else False) →
      ∃ v, (results fn (mk fn.ntmps f').tmps).run E.P w' = .ok v w' ∧ Back E.D σ w args vals ins K (.returned v) w' := by
    intro a f' w' ν' σ' ms' hG' hk
    obtain ⟨rs, vs, hk, hl1, hl2, hr1, hr2⟩ := res_ok hE.hP hG' hk
    refine ⟨retV vs, results_run hl2 hr2, ?_⟩
    obtain ⟨q, hq, hk⟩ := optK_some hk
    obtain ⟨q', hq', hk⟩ := optK_some hk
    obtain ⟨fz, hfz, hk⟩ := optK_some hk
    obtain ⟨hc, hk⟩ := bif_f hk
    obtain ⟨hndq, hrw⟩ := and_b hc
    obtain ⟨rets, tk1, fz1⟩ := q
    obtain ⟨outs, tk2, fz2⟩ := q'
    simp only at hfz hndq hrw hk
    have hrw0 := hrw
    rw [inRw_append, inRw_append] at hrw0
    obtain ⟨hrw1, hrw3⟩ := and_b hrw0
    obtain ⟨hrw1, hrw2⟩ := and_b hrw1
    obtain ⟨tlo1, ht1, hob1⟩ := names_rw (ro := roI E.D os) hrw1
    obtain ⟨tlo2, ht2, hob2⟩ := names_rw (ro := roI E.D os) hrw2
    obtain ⟨tlo3, ht3, hob3⟩ := names_rw (ro := roI E.D os) hrw3
    obtain ⟨oh, kn, _⟩ := hG'.kn (n := fn.ntmps)
    have htl : ((tlo1 ++ tlo2) ++ tlo3).map (·.1) = tk1 ++ tk2 ++ (fz1 ++ fz2) := by rw [List.map_append, List.map_append, ht1, ht2, ht3]
    obtain ⟨insA, rest, hp, ho, _⟩ := hG'.objs.takes (tlo := (tlo1 ++ tlo2) ++ tlo3) (by rw [htl]; exact nodupQ_ok hndq) (fun q hq => by
      have hqm : q.1 ∈ tk1 ++ tk2 ++ (fz1 ++ fz2) := by rw [← htl]; exact List.mem_map.2 ⟨q, hq, rfl⟩
      obtain ⟨x, hx⟩ := inRw_find hrw q.1 hqm
      refine obS_rw (ro := roI E.D os) hx ?_
      rcases List.mem_append.1 hq with hq | hq
      · rcases List.mem_append.1 hq with hq | hq
        · exact hob1 q hq
        · exact hob2 q hq
      · exact hob3 q hq)
    obtain ⟨i12, i3, rfl, ho12, ho3⟩ := ho.split
    obtain ⟨i1, i2, rfl, ho1, ho2⟩ := ho12.split
    have hS1 : St ⟨w, σ, feet ins⟩ w' σ' ((i1 ++ i2) ++ i3) := (hG'.mem.perm hp).sublist (List.sublist_append_left _ _)
    obtain ⟨σ2, m3, hS2, hsub2, hofz⟩ := freeze_all hD hfz ht3 hob3 ho3 hS1
    have hrep := frz_rep hfz hofz
    have hor : ∀ o x, obS (roI E.D os) a o = some x → ORep E.D ν' σ2 (roI E.D os).cell o x (oh o) := fun o x ho => (kn.o o x ho).1.mono (Ext.refl _) hsub2
    obtain ⟨m1, hLr, hN1⟩ := gaths_lay hD hor hl1 (fun j v s hj hk => (hr1 j v s hj hk).mono (Ext.refl _) hsub2) hq ht1 hob1 (ho1.mono (Ext.refl _) hsub2) (fun o e T l v hm => hrep o e T l v (by simp [hm]))
    obtain ⟨m2, hLt, hN2⟩ := backT_ok (ν0 := νi) (σ0 := σ) (w0 := w) (os := findN os) hD hor (fun o ty l hf => by
        obtain ⟨m, hm, b, cs, e1, e2, e3⟩ := hraw.find hf
        rw [resL_raw] at e3
        exact ⟨b, cs, e1, e3, by rw [← e2]; exact hS.own m hm⟩) (fun o ty l hf j => by simp only [roI, hf]) hG'.ext (hS2.sub) hL hi hfind (fun q hq => hS.own q hq) hlen hreps hq' ht2 hob2 (ho2.mono (Ext.refl _) hsub2) (fun o e T l v hm => hrep o e T l v (by simp [hm]))
    have hS3 : St ⟨w, σ, feet ins⟩ w' σ2 ((i1 ++ i2) ++ []) := by rw [List.append_nil]; exact hS2.sublist (List.sublist_append_left _ _)
    have hS4 := (hN1.append hN2) _ _ _ _ hS3
    rw [List.append_nil] at hS4
    exact ⟨rets, outs, vs, σ2, m1, m2, rfl, hk, hLr, hLt, hS4⟩
  refine enter hfn hc rfl (by rw [List.size_toArray, hlen]; exact hs) (vc_ok (C := fun _ => True) (fun _ _ _ _ => trivial) (n := fn.ntmps) hE.hP hE.mix (step_all hE fuel fn.ntmps) trivial hm hG (fun c a w => ?_) ?_)
  · rintro ⟨_, _, _, _, _, _, _, hu, _⟩; cases hu
  · intro e st' f' w' ν' σ' ms' hk' hG'
    cases e with
    | ret =>
      obtain ⟨v, h1, h2⟩ := hR _ _ _ _ _ _ hG' hk'
      exact bodyPost_ret h1 mk_defers h2
    | normal =>
      obtain ⟨v, h1, h2⟩ := hR _ _ _ _ _ _ hG' hk'
      exact bodyPost_end h1 mk_defers h2
    | _ => exact hk'.elim
end Go.Fx
end
