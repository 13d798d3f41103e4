/- A step of code does what its plain meaning says. Conditions: those in the statements. -/
import Derived.Test.YtkfcnibjlmiboaaFxEffB
import Derived.Test.YtkfcnibjlmiboaaFxVc
namespace Go.Fx
open Go Go.RowKit Go.Fl Go.Fl.Lk
variable {S : Sig} {P : Program} {D : Shp S} {ν ν' ν0 : Nm} {σ τ : Hv} {n : Nat} {f : Fr}
variable {w : World} {cx : Cx} {ro : Ro S} {st : AS S} {ms : List HObj}

/-- How a plain state lies in memory. -/
structure G (D : Shp S) (cx : Cx) (ν0 : Nm) (ro : Ro S) (st : AS S) (f : Fr) (w : World) (ν : Nm) (σ : Hv) (ms : List HObj) : Prop where
  mem : St cx w σ ms
  objs : Objs D ν σ ro.cell (st.objs ++ ro.objs) ms
  slots : ∀ j, SRep D ν σ (f j) (slotS ro st j)
  fresh : ∀ o, st.next ≤ o → ν o = none
  ext : Ext ν0 ν

theorem ofConst_ok (v : Value) : SRep D ν σ v (ofConst v) := by
  unfold ofConst
  split
  · exact .lit _
  · exact .f (.int _ _)
  · exact .f (.str _)
  · exact .f .nilp
  · exact .f .nils
  · exact .f .nilm
  · exact .f .nilf
  · exact .dead _
theorem findN_append {α : Type} {os os' : List (Nat × α)} {o : Nat} : findN (os ++ os') o = match findN os o with | some a => some a | none => findN os' o := by
  induction os with
  | nil => rfl
  | cons q os ih =>
    obtain ⟨o', a⟩ := q
    simp only [List.cons_append, findN]
    cases Nat.beq o' o with
    | true => rfl
    | false => exact ih
theorem obS_find {o : Nat} : obS ro st o = findN (st.objs ++ ro.objs) o := by
  unfold obS
  rw [findN_append]
  cases findN st.objs o <;> rfl
theorem ev_ok (h : ∀ j, SRep D ν σ (f j) (slotS ro st j)) (x : Operand) : SRep D ν σ (ev n f x) (evS n ro st x) := by
  cases x with
  | tmp t =>
    simp only [ev, evS]
    cases Nat.blt t n with
    | true => exact h t
    | false => exact .und
  | const v => exact ofConst_ok v
  | global g => exact .dead _
  | func k => exact .fn k [] [] [] [] rfl (fun j v s h => by cases h) rfl (fun j v s h => by cases h)

theorem Objs.find : ∀ {os : List (Nat × AO S)} {ms : List HObj} {lkc : Nat → Nat → SV S}, Objs D ν σ lkc os ms → ∀ {o a}, findN os o = some a → ∃ m ∈ ms, ORep D ν σ lkc o a m
  | [], [], _, _, _, _, h => by cases h
  | (o', a') :: os, m :: ms, _, h, o, a, hf => by
    simp only [findN] at hf
    cases hb : Nat.beq o' o with
    | true =>
      rw [hb] at hf; cases hf
      rw [← Nat.eq_of_beq_eq_true hb]
      exact ⟨m, by simp, h.1⟩
    | false =>
      rw [hb] at hf
      obtain ⟨m', hm, hr⟩ := Objs.find h.2 hf
      exact ⟨m', by simp [hm], hr⟩
/-- The objects, by their names. -/
theorem G.kn (h : G D cx ν0 ro st f w ν σ ms) : ∃ oh : Nat → HObj, Kn D ν σ n f w (evS n ro st) (obS ro st) ro.cell oh ∧ ∀ o a, obS ro st o = some a → oh o ∈ ms := by
  have hc : ∀ o, ∃ m : HObj, ∀ a, obS ro st o = some a → m ∈ ms ∧ ORep D ν σ ro.cell o a m := by
    intro o
    cases ho : obS ro st o with
    | none => exact ⟨triv, fun a h => by cases h⟩
    | some a =>
      obtain ⟨m, hm, hr⟩ := h.objs.find (obS_find ▸ ho)
      exact ⟨m, fun a' h' => by cases h'; exact ⟨hm, hr⟩⟩
  refine ⟨fun o => Classical.choose (hc o), ⟨ev_ok h.slots, fun o a ho => ?_⟩, fun o a ho => (Classical.choose_spec (hc o) a ho).1⟩
  obtain ⟨h1, h2⟩ := Classical.choose_spec (hc o) a ho
  exact ⟨h2, h.mem.own _ h1⟩

def putF (f : Fr) (d : Option Nat) (v : Value) : Fr := match d with | some d => upd f d v | none => f
theorem mk_put (d : Option Nat) (v : Value) : (mk n f).put d v = mk n (putF f d v) := by
  cases d with
  | none => exact put_none n f v
  | some d => exact put_mk n f d v
theorem slot_put {d : Nat} {s : SV S} (hd : hasN ro.lock d = false) (j : Nat) : slotS ro { st with slots := updS st.slots d s } j = bif Nat.beq j d then s else slotS ro st j := by
  unfold slotS updS
  cases hj : Nat.beq j d with
  | false => simp only [hj, cond_false]
  | true =>
    have := Nat.eq_of_beq_eq_true hj
    subst this
    rw [hd]; simp
theorem G.put {d : Option Nat} {s : SV S} {v : Value} {k : AS S → Prop} (h : G D cx ν0 ro st f w ν σ ms) (hs : SRep D ν σ v s) (hk : putS ro st d s k) : ∃ st', k st' ∧ st'.objs = st.objs ∧ st'.next = st.next ∧ G D cx ν0 ro st' (putF f d v) w ν σ ms := by
  cases d with
  | none => exact ⟨st, hk, rfl, rfl, h⟩
  | some d =>
    simp only [putS] at hk
    cases hd : hasN ro.lock d with
    | true => rw [hd] at hk; exact hk.elim
    | false =>
      rw [hd, cond_false, forceS_eq] at hk
      refine ⟨_, hk, rfl, rfl, h.mem, h.objs, fun j => ?_, h.fresh, h.ext⟩
      rw [slot_put hd]
      show SRep D ν σ (bif Nat.beq j d then v else f j) _
      cases Nat.beq j d with
      | true => exact hs
      | false => exact h.slots j

/-! Objects that are touched. -/
def vfoot : Value → Option Nat
  | .pointer (some a) => some a.block
  | .map (some b) => some b
  | v => v.ownBlock
theorem ORep.foot {o : Nat} {a : AO S} {m : HObj} {lkc : Nat → Nat → SV S} {b : Nat} (h : ORep D ν σ lkc o a m) (hok : m.ok w) (hb : m.foot = some b) : ∃ v, ν o = some v ∧ vfoot v = some b := by
  cases a with
  | cells ty l => obtain ⟨b', cs, h1, rfl, _⟩ := h; cases hb; exact ⟨_, h1, rfl⟩
  | vec e T l =>
    obtain ⟨v, xs, h1, rfl, _⟩ := h
    refine ⟨v, h1, ?_⟩
    obtain ⟨a, cap, rfl⟩ := vec_any hok
    exact hb
  | frz T l => obtain ⟨v, h1, rfl, _⟩ := h; cases hb
  | arr ty T N l => obtain ⟨b', cs, h1, rfl, _⟩ := h; cases hb; exact ⟨_, h1, rfl⟩
  | iter K V F done cur => obtain ⟨r, b', es, clock, cv, h1, rfl, _⟩ := h; cases hb; exact ⟨_, h1, rfl⟩
  | map K V F => obtain ⟨b', m, h1, rfl, _⟩ := h; cases hb; exact ⟨_, h1, rfl⟩
def isFrz : AO S → Bool
  | .frz _ _ => true
  | _ => false
theorem ORep.foot' {o : Nat} {a : AO S} {m : HObj} {lkc : Nat → Nat → SV S} {b : Nat} {v : Value} (h : ORep D ν σ lkc o a m) (hok : m.ok w) (ha : isFrz a = false) (hv : ν o = some v) (hb : vfoot v = some b) : m.foot = some b := by
  cases a with
  | cells ty l => obtain ⟨b', cs, h1, rfl, _⟩ := h; rw [hv] at h1; cases h1; exact hb
  | vec e T l =>
    obtain ⟨v', xs, h1, rfl, _⟩ := h
    rw [hv] at h1; cases h1
    obtain ⟨a, cap, rfl⟩ := vec_any hok
    exact hb
  | frz T l => cases ha
  | arr ty T N l => obtain ⟨b', cs, h1, rfl, _⟩ := h; rw [hv] at h1; cases h1; exact hb
  | iter K V F done cur => obtain ⟨r, b', es, clock, cv, h1, rfl, _⟩ := h; rw [hv] at h1; cases h1; exact hb
  | map K V F => obtain ⟨b', m, h1, rfl, _⟩ := h; rw [hv] at h1; cases h1; exact hb
theorem findN_del {α : Type} {os : List (Nat × α)} {o o' : Nat} (h : o ≠ o') : findN (delN os o) o' = findN os o' := by
  induction os with
  | nil => rfl
  | cons q os ih =>
    obtain ⟨x, a⟩ := q
    simp only [delN]
    cases hb : Nat.beq x o with
    | true =>
      have := Nat.eq_of_beq_eq_true hb
      subst this
      simp only [cond_true, findN]
      have : Nat.beq x o' = false := by
        cases hq : Nat.beq x o' with
        | false => rfl
        | true => exact absurd (Nat.eq_of_beq_eq_true hq) h
      rw [this]; rfl
    | false =>
      simp only [cond_false, findN, ih]
theorem findN_dels {α : Type} : ∀ {tl : List Nat} {os : List (Nat × α)} {o : Nat}, o ∉ tl → findN (delNs os tl) o = findN os o
  | [], _, _, _ => rfl
  | x :: tl, os, o, h => by
    rw [delNs, findN_dels (fun hm => h (by simp [hm]))]
    exact findN_del (fun he => h (by simp [he]))
theorem delN_append {α : Type} {os os' : List (Nat × α)} {o : Nat} {a : α} (h : findN os o = some a) : delN (os ++ os') o = delN os o ++ os' := by
  induction os with
  | nil => cases h
  | cons q os ih =>
    obtain ⟨x, b⟩ := q
    simp only [findN] at h
    simp only [List.cons_append, delN]
    cases hb : Nat.beq x o with
    | true => rfl
    | false =>
      rw [hb] at h
      simp only [cond_false]
      rw [ih h]; rfl
theorem Objs.takes {lkc : Nat → Nat → SV S} : ∀ {tlo os os' : List (Nat × AO S)} {ms : List HObj}, Objs D ν σ lkc (os ++ os') ms → (tlo.map (·.1)).Nodup → (∀ q ∈ tlo, findN os q.1 = some q.2) →
    ∃ ins rest, ms.Perm (ins ++ rest) ∧ Objs D ν σ lkc tlo ins ∧ Objs D ν σ lkc (delNs os (tlo.map (·.1)) ++ os') rest := by
  intro tlo
  induction tlo with
  | nil => intro os os' ms h _ _; exact ⟨[], ms, .refl _, trivial, h⟩
  | cons q tlo ih =>
    intro os os' ms h hn hq
    obtain ⟨o, a⟩ := q
    have hoa := hq (o, a) (by simp)
    simp only at hoa
    have hf : findN (os ++ os') o = some a := by rw [findN_append, hoa]
    obtain ⟨m, ms', hp, hr, ho⟩ := h.take hf
    rw [delN_append hoa] at ho
    rw [List.map_cons, List.nodup_cons] at hn
    obtain ⟨ins, rest, hp2, h1, h2⟩ := ih ho hn.2 (fun q hq' => by
      rw [findN_del (fun he => hn.1 (by rw [he]; exact List.mem_map.2 ⟨q, hq', rfl⟩))]
      exact hq q (by simp [hq']))
    exact ⟨m :: ins, rest, hp.trans (hp2.cons m), ⟨hr, h1⟩, h2⟩
theorem inRw_find {tl : List Nat} (h : inRw st tl = true) : ∀ o ∈ tl, ∃ a, findN st.objs o = some a := by
  induction tl with
  | nil => simp
  | cons x tl ih =>
    obtain ⟨h1, h2⟩ := and_b h
    intro o ho
    rcases List.mem_cons.1 ho with rfl | ho
    · exact Option.isSome_iff_exists.1 h1
    · exact ih h2 o ho
theorem obS_rw {o : Nat} {a b : AO S} (h : findN st.objs o = some a) (h' : obS ro st o = some b) : findN st.objs o = some b := by
  unfold obS at h'
  rw [h] at h'
  rw [h]; exact h'

/-- What a step leaves alone. -/
def Left (ro : Ro S) (st : AS S) (ν : Nm) (w w' : World) (ban : List Nat → Bool) : Prop :=
  w' = w ∨ ∃ tl, ban tl = true ∧ ∀ b o a v, o ∉ tl → findN (st.objs ++ ro.objs) o = some a → isFrz a = false → ν o = some v → vfoot v = some b → w'.heap[b]? = w.heap[b]?
def StepOk (P : Program) (D : Shp S) (cx : Cx) (ν0 : Nm) (ro : Ro S) (st : AS S) (n : Nat) (o : Oper) (f : Fr) (w : World) (ν : Nm) (σ : Hv) (ban : List Nat → Bool) (k : List Nat → AS S → Prop) : Prop :=
  ∀ (KK : Act → World → Prop) (Q : Exit → Act → World → Prop), (∀ rd st' f' w' ν' σ' ms', k rd st' → G D cx ν0 ro st' f' w' ν' σ' ms' → Ext ν ν' → Sub σ σ' → (∃ v, f' = putF f o.dst v) → Left ro st ν w w' ban → KK (mk n f') w') → o.wp P (mk n f) w KK Q

/-- Objects that are touched come back as others; all else stays. -/
theorem G.turn {tl : List Nat} {tlo : List (Nat × AO S)} (h : G D cx ν0 ro st f w ν σ ms) (ht : tlo.map (·.1) = tl) (hn : tl.Nodup) (hrw : inRw st tl = true) (hob : ∀ q ∈ tlo, obS ro st q.1 = some q.2) :
    ∃ ins, Objs D ν σ ro.cell tlo ins ∧ St ⟨w, σ, feet ins⟩ w σ ins ∧ ∀ {outs : List (Nat × AO S)} {w' : World} {σ' : Hv} {ν' : Nm} {ms' : List HObj} {nx : Nat}, Ext ν ν' → (∀ o, nx ≤ o → ν' o = none) → St ⟨w, σ, feet ins⟩ w' σ' ms' → Objs D ν' σ' ro.cell outs ms' →
      Sub σ σ' ∧ (∃ ms2, G D cx ν0 ro { slots := st.slots, objs := outs ++ delNs st.objs tl, next := nx } f w' ν' σ' ms2) ∧ ∀ b o a v, o ∉ tl → findN (st.objs ++ ro.objs) o = some a → isFrz a = false → ν o = some v → vfoot v = some b → w'.heap[b]? = w.heap[b]? := by
  subst ht
  obtain ⟨ins, rest, hp, h1, h2⟩ := h.objs.takes hn (fun q hq => by
    obtain ⟨a, ha⟩ := inRw_find hrw q.1 (List.mem_map.2 ⟨q, hq, rfl⟩)
    exact obS_rw ha (hob q hq))
  have hS := h.mem.perm hp
  refine ⟨ins, h1, hS.inner, fun {outs w' σ' ν' ms' nx} hext hfr hS' ho' => ?_⟩
  have hsub : Sub σ σ' := hS'.sub
  refine ⟨hsub, ⟨ms' ++ rest, hS.callM hS' rfl, ?_, fun j => (h.slots j).mono hext hsub, hfr, h.ext.trans hext⟩, fun b o a v ho hf ha hv hb => ?_⟩
  · rw [List.append_assoc]
    exact ho'.append (h2.mono hext hsub)
  · have hf2 : findN (delNs st.objs (tlo.map (·.1)) ++ ro.objs) o = some a := by
      rw [findN_append, findN_dels ho, ← findN_append]; exact hf
    obtain ⟨m, hm, hr⟩ := h2.find hf2
    have hmo := hS.own m (by simp [hm])
    have hmb := hr.foot' hmo ha hv hb
    refine hS'.keeps.block b (m.lt w b hmo hmb) fun hmem => ?_
    obtain ⟨m', hm', hmb'⟩ := mem_feet.1 hmem
    exact (List.pairwise_append.1 hS.sep).2.2 m' hm' m hm b hmb' hmb

theorem step_eff {o : Oper} {ban : List Nat → Bool} {k : List Nat → AS S → Prop} (hP : D.OkP P) (h : G D cx ν0 ro st f w ν σ ms)
    (hk : effOp P D (evS n ro st) (obS ro st) st.next o.op fun tl outs sv => bif inRw st tl && ban tl then
        (match sv with
        | some s => putS ro { slots := st.slots, objs := outs ++ delNs st.objs tl, next := st.next + 1 } o.dst s (k [])
        | none => bif o.dst.isNone then k [] { slots := st.slots, objs := outs ++ delNs st.objs tl, next := st.next + 1 } else False) else False) :
    StepOk P D cx ν0 ro st n o f w ν σ ban k := by
  intro KK Q hKK
  obtain ⟨oh, kn, _⟩ := h.kn (n := n)
  obtain ⟨tl, outs, sv, tlo, hK, ht, hn, hob, hrun⟩ := eff_ok (f := f) hP (h.fresh _ (Nat.le_refl _)) h.mem.view kn hk
  obtain ⟨hc, hK⟩ := bif_f hK
  obtain ⟨hrw, hban⟩ := and_b hc
  obtain ⟨ins, h1, h2, h3⟩ := h.turn ht hn hrw hob
  obtain ⟨w', σ', ν', ms', x, hr, hext, hnew, hS', ho', hx⟩ := hrun ins h1 h2 o rfl
  have hfr : ∀ m, st.next + 1 ≤ m → ν' m = none := by
    intro m hm
    rcases hq : ν' m with _ | u
    · rfl
    · rcases hnew m u hq with h4 | h4
      · rw [h.fresh m (by omega)] at h4; cases h4
      · omega
  obtain ⟨hsub, ⟨ms2, hG⟩, hleft⟩ := h3 hext hfr hS' ho'
  unfold Oper.wp
  rw [eval_mk, hr]
  cases sv with
  | none =>
    obtain ⟨hd, hK⟩ := bif_f hK
    have hx' : x = .skip := hx
    subst hx'
    show KK ((mk n f).put o.dst undef) w'
    have hd' : o.dst = none := by simpa using hd
    rw [mk_put]
    refine hKK [] _ _ w' ν' σ' ms2 hK ?_ hext hsub ⟨undef, rfl⟩ (.inr ⟨tl, hban, hleft⟩)
    rw [hd']; exact hG
  | some s =>
    obtain ⟨v, rfl, hs⟩ := hx
    show KK ((mk n f).put o.dst v) w'
    rw [mk_put]
    obtain ⟨st', hk', _, _, hG'⟩ := hG.put hs hK
    exact hKK [] st' _ w' ν' σ' ms2 hk' hG' hext hsub ⟨v, rfl⟩ (.inr ⟨tl, hban, hleft⟩)

theorem step_pure {o : Oper} {ban : List Nat → Bool} {k : List Nat → AS S → Prop} (hP : D.OkP P) (h : G D cx ν0 ro st f w ν σ ms)
    (hk : pureOp P D (evS n ro st) (obS ro st) ro.cell o.op fun rd s => putS ro st o.dst s (k rd)) : StepOk P D cx ν0 ro st n o f w ν σ ban k := by
  intro KK Q hKK
  obtain ⟨oh, kn, hms⟩ := h.kn (n := n)
  obtain ⟨rd, s, v, hK, hs, hrun⟩ := pure_ok hP kn hk
  obtain ⟨st', hk', _, _, hG'⟩ := h.put hs hK
  have hr := hrun w o rfl h.mem.view (fun o _ a ha => h.mem.own _ (hms o a ha))
  unfold Oper.wp
  rw [eval_mk, hr]
  show KK ((mk n f).put o.dst v) w
  rw [mk_put]
  exact hKK rd st' _ w ν σ ms hk' hG' (Ext.refl _) (Sub.refl _) ⟨v, rfl⟩ (.inl rfl)

/-! Guards. -/
theorem wanted_bool {ops : Array Oper} {o : Oper} {j d : Nat} {want b : Bool} (hg : o.guard = some (j, want)) (hj : (ops[j]?).bind (·.dst) = some d) (hv : ev n f (.tmp d) = .bool b) : Region.wanted o (yielded ops (mk n f).tmps) = (b == want) := by
  have h2 : (mk n f).tmps.getD d undef = .bool b := res_ev hv
  have h3 : (mk n f).tmps[d]? = some (.bool b) := by
    rw [Array.getD_eq_getD_getElem?] at h2
    cases hx : (mk n f).tmps[d]? with
    | none => rw [hx] at h2; cases h2
    | some x => rw [hx] at h2; exact congrArg some h2
  simp [Region.wanted, hg, yielded, hj, h3]
theorem wanted_und {ops : Array Oper} {o : Oper} {j d : Nat} {want : Bool} (hg : o.guard = some (j, want)) (hj : (ops[j]?).bind (·.dst) = some d) (hv : ev n f (.tmp d) = undef) : Region.wanted o (yielded ops (mk n f).tmps) = false := by
  have h2 : (mk n f).tmps.getD d undef = undef := res_ev hv
  have h3 : (mk n f).tmps[d]? = some undef ∨ (mk n f).tmps[d]? = none := by
    rw [Array.getD_eq_getD_getElem?] at h2
    cases hx : (mk n f).tmps[d]? with
    | none => right; rfl
    | some x => rw [hx] at h2; left; exact congrArg some h2
  rcases h3 with h3 | h3 <;> simp [Region.wanted, hg, yielded, hj, h3, undef]
theorem G.lit {d : Nat} {b : Bool} (h : G D cx ν0 ro st f w ν σ ms) (hv : ev n f (.tmp d) = .bool b) : G D cx ν0 ro { st with slots := updS st.slots d (.lit b) } f w ν σ ms := by
  refine ⟨h.mem, h.objs, fun j => ?_, h.fresh, h.ext⟩
  unfold slotS updS
  have := h.slots j
  unfold slotS at this
  cases hl : hasN ro.lock j with
  | true => rw [hl] at this; exact this
  | false =>
    rw [hl] at this
    simp only [cond_false]
    cases hj : Nat.beq j d with
    | false => exact this
    | true =>
      have := Nat.eq_of_beq_eq_true hj
      subst this
      simp only [ev] at hv
      cases hb : Nat.blt j n with
      | true => rw [hb] at hv; simp only [cond_true] at hv; rw [hv]; exact .lit b
      | false => rw [hb] at hv; cases hv
theorem guard_ok {ops : Array Oper} {o : Oper} {yes no : AS S → Prop} (h : G D cx ν0 ro st f w ν σ ms) (hg : guardS n ro ops st o yes no) :
    (Region.wanted o (yielded ops (mk n f).tmps) = true ∧ ∃ st1, yes st1 ∧ st1.objs = st.objs ∧ G D cx ν0 ro st1 f w ν σ ms) ∨ (Region.wanted o (yielded ops (mk n f).tmps) = false ∧ ∃ st1, no st1 ∧ st1.objs = st.objs ∧ G D cx ν0 ro st1 f w ν σ ms) := by
  unfold guardS at hg
  split at hg
  · rename_i hgd
    exact .inl ⟨by simp [Region.wanted, hgd], st, hg, rfl, h⟩
  · rename_i j want hgd
    split at hg
    · exact hg.elim
    · rename_i d hj
      have hd := ev_ok (n := n) h.slots (.tmp d)
      have two : ∀ (b : Bool), ev n f (.tmp d) = .bool b → (bif b == want then yes { st with slots := updS st.slots d (.lit b) } else no { st with slots := updS st.slots d (.lit b) }) →
          (Region.wanted o (yielded ops (mk n f).tmps) = true ∧ ∃ st1, yes st1 ∧ st1.objs = st.objs ∧ G D cx ν0 ro st1 f w ν σ ms) ∨ (Region.wanted o (yielded ops (mk n f).tmps) = false ∧ ∃ st1, no st1 ∧ st1.objs = st.objs ∧ G D cx ν0 ro st1 f w ν σ ms) := by
        intro b hv hh
        rw [wanted_bool hgd hj hv]
        cases hb : b == want with
        | true => rw [hb] at hh; exact .inl ⟨rfl, _, hh, rfl, h.lit hv⟩
        | false => rw [hb] at hh; exact .inr ⟨rfl, _, hh, rfl, h.lit hv⟩
      generalize hvd : ev n f (.tmp d) = v at hd two
      generalize hsd : evS n ro st (.tmp d) = s at hd hg
      cases hd with
      | lit b =>
        simp only at hg
        rw [wanted_bool hgd hj hvd]
        cases hb : b == want with
        | true => rw [hb] at hg; exact .inl ⟨rfl, st, hg, rfl, h⟩
        | false => rw [hb] at hg; exact .inr ⟨rfl, st, hg, rfl, h⟩
      | und => exact .inr ⟨wanted_und hgd hj hvd, st, hg, rfl, h⟩
      | f hf =>
        cases hf with
        | bool b =>
          refine two b rfl ?_
          cases b with
          | true =>
            have := hg.1 rfl
            cases want <;> exact this
          | false =>
            have := hg.2 (by simp)
            cases want <;> exact this
        | _ => exact hg.elim
      | pb p dp =>
        refine two _ rfl ?_
        by_cases hp : p
        · have := hg.1 hp
          simp only [hp, decide_true]
          cases want <;> exact this
        · have := hg.2 hp
          simp only [hp, decide_false]
          cases want <;> exact this
      | pbn p dp =>
        refine two _ rfl ?_
        by_cases hp : p
        · have := hg.1 hp
          simp only [hp, decide_true, Bool.not_true]
          cases want <;> exact this
        · have := hg.2 hp
          simp only [hp, decide_false, Bool.not_false]
          cases want <;> exact this
      | _ => exact hg.elim

/-- Steps do what they should. -/
def StH (E : Ev S) (inlh : InlH S) (n : Nat) (C : Ro S → Prop) : Prop :=
  ∀ {cx : Cx} {ν0 : Nm} {ro : Ro S} {st : AS S} {f : Fr} {w : World} {ν : Nm} {σ : Hv} {ms : List HObj} {o : Oper} {ban : List Nat → Bool} {k : List Nat → AS S → Prop}, C ro →
    stepS E inlh n ro st ban o k → G E.D cx ν0 ro st f w ν σ ms → StepOk E.P E.D cx ν0 ro st n o f w ν σ ban k

theorem ops_ok {E : Ev S} {inlh : InlH S} {C : Ro S → Prop} (hst : StH E inlh n C) (hro : C ro) {ops : Array Oper} {Q : Exit → Act → World → Prop} {k : AS S → Prop} : ∀ {l : List Oper} {st : AS S} {f : Fr} {w : World} {ν : Nm} {σ : Hv} {ms : List HObj}, opsS E inlh n ro ops l st k → G E.D cx ν0 ro st f w ν σ ms →
    (∀ st' f' w' ν' σ' ms', k st' → G E.D cx ν0 ro st' f' w' ν' σ' ms' → Q .normal (mk n f') w') → wpList E.P ops Q l (mk n f) w := by
  intro l
  induction l with
  | nil => intro st f w ν σ ms h hG hQ; exact hQ _ _ _ _ _ _ h hG
  | cons o l ih =>
    intro st f w ν σ ms h hG hQ
    simp only [opsS] at h
    unfold wpList
    rcases guard_ok hG h with ⟨hw, st1, hy, _, hG1⟩ | ⟨hw, st1, hno, _, hG1⟩
    · rw [if_pos hw]
      exact .inl (hst hro hy hG1 _ _ fun rd st' f' w' ν' σ' ms' hk hG' _ _ _ _ => ih hk hG' hQ)
    · rw [if_neg (by rw [hw]; simp), mk_put]
      obtain ⟨st2, hk, _, _, hG2⟩ := hG1.put (v := undef) .und hno
      exact ih hk hG2 hQ
end Go.Fx
