/- Code does what its plain meaning says. Conditions: those in the statements. -/
import Derived.Test.YtkfcnibjlmiboaaFxBuild
namespace Go.Fx
open Go Go.RowKit Go.Fl Go.Fl.Lk
variable {S : Sig} {P : Program} {D : Shp S} {ν ν' ν0 : Nm} {σ τ : Hv} {n : Nat} {f : Fr}
variable {w : World} {cx : Cx} {ro : Ro S} {st : AS S} {ms : List HObj}

theorem hasN_append : ∀ {l l' : List Nat} {j : Nat}, hasN (l ++ l') j = (hasN l j || hasN l' j)
  | [], _, _ => rfl
  | a :: l, l', j => by
    simp only [List.cons_append, hasN]
    cases Nat.beq a j with
    | true => rfl
    | false => exact hasN_append
theorem hasN_of {l : List Nat} {o : Nat} (h : o ∉ l) : hasN l o = false := by
  induction l with
  | nil => rfl
  | cons a l ih =>
    simp only [hasN]
    cases hb : Nat.beq a o with
    | true => exact absurd (by rw [Nat.eq_of_beq_eq_true hb]; simp) h
    | false => exact ih fun hm => h (by simp [hm])
theorem pickN_ok : ∀ {l : List Nat} {objs r : List (Nat × AO S)}, pickN objs l = some r → r.map (·.1) = l ∧ ∀ q ∈ r, findN objs q.1 = some q.2
  | [], _, _, h => by cases h; exact ⟨rfl, by simp⟩
  | o :: l, objs, r, h => by
    simp only [pickN] at h
    split at h
    case h_2 => cases h
    rename_i a r' ha hr
    cases h
    obtain ⟨h1, h2⟩ := pickN_ok hr
    refine ⟨by simp [h1], fun q hq => ?_⟩
    rcases List.mem_cons.1 hq with rfl | hq
    · exact ha
    · exact h2 q hq
theorem findN_of_mem {α : Type} : ∀ {os : List (Nat × α)} {o : Nat} {a : α}, (os.map (·.1)).Nodup → (o, a) ∈ os → findN os o = some a
  | q :: os, o, a, hn, hm => by
    obtain ⟨o', a'⟩ := q
    rw [List.map_cons, List.nodup_cons] at hn
    simp only [findN]
    rcases List.mem_cons.1 hm with he | hm
    · cases he; simp
    · have : Nat.beq o' o = false := by
        cases hb : Nat.beq o' o with
        | false => rfl
        | true =>
          have := Nat.eq_of_beq_eq_true hb
          subst this
          exact absurd (List.mem_map.2 ⟨_, hm, rfl⟩) hn.1
      rw [this]
      exact findN_of_mem hn.2 hm
theorem delN_sub {α : Type} : ∀ {os : List (Nat × α)} {o : Nat}, (delN os o).Sublist os
  | [], _ => List.Sublist.refl _
  | (o', _) :: _, o => by
    simp only [delN]
    cases Nat.beq o' o with
    | true => exact List.sublist_cons_self _ _
    | false => exact delN_sub.cons_cons _
theorem delNs_sub {α : Type} : ∀ {tl : List Nat} {os : List (Nat × α)}, (delNs os tl).Sublist os
  | [], _ => List.Sublist.refl _
  | _ :: tl, _ => (delNs_sub (tl := tl)).trans delN_sub

/-- The condition at a way or a loop. -/
structure Chk (sp : Spec S) (ro : Ro S) (st : AS S) : Prop where
  cobj : ∀ q ∈ sp.cobj, ∃ l : List (SV S), findN st.objs q.1 = some (.cells q.2.1 l) ∧ l.length = q.2.2
  apart : ∀ q ∈ sp.cobj, q.1 ∉ sp.robj
  nodup : ((st.objs ++ ro.objs).map (·.1)).Nodup
  rnodup : sp.robj.Nodup
  cnodup : nodupQ (sp.cobj.map (·.1)) = true
  clt : ∀ q ∈ sp.cobj, q.1 < st.next
  lt : objLt st.next sp.items = true
theorem cobjQ_ok {sp : Spec S} (h : cobjQ sp ro st = true) : Chk sp ro st := by
  obtain ⟨h, h6⟩ := and_b h
  obtain ⟨h, h5⟩ := and_b h
  obtain ⟨h, h4⟩ := and_b h
  obtain ⟨h, h3⟩ := and_b h
  obtain ⟨h1, h2⟩ := and_b h
  have h1 := List.all_eq_true.1 h1
  refine ⟨fun q hq => ?_, fun q hq => ?_, nodupQ_ok h2, nodupQ_ok h3, h4, fun q hq => ?_, h6⟩
  · obtain ⟨ha, _⟩ := and_b (h1 q hq)
    split at ha
    case h_2 => cases ha
    rename_i ty l hf
    obtain ⟨ha, hb⟩ := and_b ha
    exact ⟨l, by rw [hf, Nat.eq_of_beq_eq_true ha], Nat.eq_of_beq_eq_true hb⟩
  · obtain ⟨_, hb⟩ := and_b (h1 q hq)
    exact hasN_mem (by simpa using hb)
  · have := List.all_eq_true.1 h5 q hq
    rw [← Nat.blt_eq]; exact this
theorem hasC_iff : ∀ {l : List (Nat × TypeId × Nat)} {o : Nat}, hasC l o = true ↔ ∃ q ∈ l, q.1 = o
  | [], o => by simp [hasC]
  | (o', ty, len) :: l, o => by
    simp only [hasC]
    cases hb : Nat.beq o' o with
    | true =>
      have := Nat.eq_of_beq_eq_true hb
      subst this
      simp
    | false =>
      rw [cond_false, hasC_iff]
      constructor
      · rintro ⟨q, hq, rfl⟩; exact ⟨q, by simp [hq], rfl⟩
      · rintro ⟨q, hq, rfl⟩
        rcases List.mem_cons.1 hq with rfl | hq
        · simp at hb
        · exact ⟨q, hq, rfl⟩
def res1 (x : SV S) : SV S → SV S
  | .lk => x
  | s => s
theorem resL_cons {g : Nat → SV S} {k : Nat} {s : SV S} {l : List (SV S)} : resL g k (s :: l) = res1 (g k) s :: resL g (k + 1) l := by cases s <;> rfl
theorem lockL_res {g h : Nat → SV S} {p : Nat → Bool} : ∀ {l : List (SV S)} {k : Nat}, (∀ i s, (resL h k l)[i]? = some s → g (k + i) = s) → resL g k (lockL l p k) = resL h k l
  | [], _, _ => rfl
  | s :: l, k, hg => by
    have h0 := hg 0 (res1 (h k) s) (by rw [resL_cons]; rfl)
    rw [Nat.add_zero] at h0
    have ih := lockL_res (g := g) (h := h) (p := p) (l := l) (k := k + 1) (fun i s' hi => by
      have := hg (i + 1) s' (by rw [resL_cons]; exact hi)
      rw [← this]; congr 1; omega)
    simp only [lockL]
    rw [resL_cons, resL_cons, ih]
    congr 1
    cases p k with
    | true => simp only [cond_true]; cases s <;> first | rfl | exact h0
    | false => exact h0

/-- Into a way or a loop. -/
theorem G.enter {sp : Spec S} {robj : List (Nat × AO S)} (h : G D cx ν0 ro st f w ν σ ms) (hc : Chk sp ro st) (hr : pickN st.objs sp.robj = some robj) :
    ∃ ms', G D cx ν0 (roOf sp ro st robj) { slots := st.slots, objs := lockObjs sp (delNs st.objs sp.robj), next := st.next } f w ν σ ms' := by
  obtain ⟨hr1, hr2⟩ := pickN_ok hr
  obtain ⟨ins, r1, r2, hp, ho1, ho2, ho3⟩ := h.objs.takeR (tlo := robj) (by rw [hr1]; exact hc.rnodup) hr2
  rw [hr1] at ho2
  have hnd : (st.objs.map (·.1)).Nodup := by
    have := hc.nodup
    rw [List.map_append] at this
    exact (List.nodup_append.1 this).1
  have hdis : ∀ o ∈ st.objs.map (·.1), ∀ o' ∈ ro.objs.map (·.1), o ≠ o' := by
    have := hc.nodup
    rw [List.map_append] at this
    exact (List.nodup_append.1 this).2.2
  -- cells elsewhere are as they were
  have hcell : ∀ o, hasC sp.cobj o = false → (roOf sp ro st robj).cell o = ro.cell o := by
    intro o ho
    funext i
    simp only [roOf, ho, cond_false]
  have hstay : ∀ {os : List (Nat × AO S)} {ms : List HObj}, (∀ q ∈ os, hasC sp.cobj q.1 = false) → Objs D ν σ ro.cell os ms → Objs D ν σ (roOf sp ro st robj).cell os ms := by
    intro os
    induction os with
    | nil => intro ms _ ho; cases ms with | nil => trivial | cons => exact ho.elim
    | cons q os ih =>
      intro ms hq ho
      cases ms with
      | nil => exact ho.elim
      | cons m ms =>
        refine ⟨?_, ih (fun q' hq' => hq q' (by simp [hq'])) ho.2⟩
        obtain ⟨o, a⟩ := q
        have hoa := ho.1
        cases a with
        | cells ty l =>
          obtain ⟨b, cs, e1, e2, e3⟩ := hoa
          refine ⟨b, cs, e1, e2, ?_⟩
          rw [hcell o (hq (o, .cells ty l) (by simp))]
          exact e3
        | vec e T l => exact hoa
        | frz T l => exact hoa
        | arr ty T N l => exact hoa
        | map K V F => exact hoa
        | iter K V F done cur => exact hoa
  refine ⟨r1 ++ (ins ++ r2), h.mem.perm (hp.trans (by
    rw [← List.append_assoc, ← List.append_assoc]
    exact List.Perm.append_right r2 List.perm_append_comm)), ?_, fun j => ?_, h.fresh, h.ext⟩
  · refine Objs.append (os' := robj ++ ro.objs) ?_ (Objs.append (hstay (fun q hq => ?_) ho1) (hstay (fun q hq => ?_) ho3))
    · -- the objects of the state
      have hsub : ∀ q ∈ delNs st.objs sp.robj, findN st.objs q.1 = some q.2 := fun q hq => findN_of_mem hnd (delNs_sub.subset hq)
      clear hp
      generalize delNs st.objs sp.robj = os at ho2 hsub
      induction os generalizing r1 with
      | nil => cases r1 with | nil => trivial | cons => exact ho2.elim
      | cons q os ih =>
        cases r1 with
        | nil => exact ho2.elim
        | cons m r1 =>
          obtain ⟨o, a⟩ := q
          have hoa := ho2.1
          have hfind := hsub (o, a) (by simp)
          have hih := ih r1 ho2.2 (fun q hq => hsub q (by simp [hq]))
          cases a with
          | cells ty l =>
            simp only [lockObjs]
            refine ⟨?_, hih⟩
            obtain ⟨b, cs, e1, e2, e3⟩ := hoa
            cases hb : hasC sp.cobj o with
            | false =>
              refine ⟨b, cs, e1, e2, ?_⟩
              rw [hcell o hb]; exact e3
            | true =>
              refine ⟨b, cs, e1, e2, ?_⟩
              have : resL ((roOf sp ro st robj).cell o) 0 (lockL l (itemC sp.items o) 0) = resL (ro.cell o) 0 l := by
                refine lockL_res fun i s hi => ?_
                simp only at hfind
                simp only [roOf, hb, cond_true, hfind, Nat.zero_add, List.getD_eq_getElem?_getD, hi, Option.getD_some]
              rw [this]; exact e3
          | vec e T l => exact ⟨hoa, hih⟩
          | frz T l => exact ⟨hoa, hih⟩
          | arr ty T N l => exact ⟨hoa, hih⟩
          | map K V F => exact ⟨hoa, hih⟩
          | iter K V F done cur => exact ⟨hoa, hih⟩
    · cases hb : hasC sp.cobj q.1 with
      | false => rfl
      | true =>
        obtain ⟨q', hq', he⟩ := hasC_iff.1 hb
        exact absurd (by rw [he, ← hr1]; exact List.mem_map.2 ⟨q, hq, rfl⟩) (hc.apart q' hq')
    · cases hb : hasC sp.cobj q.1 with
      | false => rfl
      | true =>
        obtain ⟨q', hq', he⟩ := hasC_iff.1 hb
        obtain ⟨l, hl, _⟩ := hc.cobj q' hq'
        exact absurd he (hdis _ (List.mem_map.2 ⟨_, findN_mem hl, rfl⟩) _ (List.mem_map.2 ⟨q, hq, rfl⟩))
  · have : slotS (roOf sp ro st robj) { slots := st.slots, objs := lockObjs sp (delNs st.objs sp.robj), next := st.next } j = slotS ro st j := by
      unfold slotS roOf
      simp only [hasN_append]
      cases h1 : hasN ro.lock j <;> cases h2 : hasN sp.lock j <;> simp [slotS, h1]
    rw [this]; exact h.slots j

theorem lockObjs_find {sp : Spec S} : ∀ {os : List (Nat × AO S)} {o : Nat} {ty : TypeId} {l : List (SV S)}, findN os o = some (.cells ty l) → hasC sp.cobj o = true → findN (lockObjs sp os) o = some (.cells ty (lockL l (itemC sp.items o) 0))
  | (o', a) :: os, o, ty, l, h, hc => by
    simp only [findN] at h
    cases hb : Nat.beq o' o with
    | true =>
      rw [hb] at h; cases h
      have := Nat.eq_of_beq_eq_true hb
      subst this
      simp [lockObjs, findN, hc]
    | false =>
      rw [hb] at h
      have ih := lockObjs_find (sp := sp) (os := os) h hc
      cases a <;> simp [lockObjs, findN, hb, ih]
theorem lockL_get {p : Nat → Bool} : ∀ {l : List (SV S)} {k i : Nat}, i < l.length → p (k + i) = false → (lockL l p k)[i]? = some .lk
  | s :: l, k, 0, _, hp => by rw [Nat.add_zero] at hp; simp [lockL, hp]
  | s :: l, k, i + 1, h, hp => by
    simp only [lockL, List.getElem?_cons_succ]
    exact lockL_get (by simpa using h) (by rw [← hp]; congr 1; omega)
theorem lockL_len {p : Nat → Bool} : ∀ {l : List (SV S)} {k : Nat}, (lockL l p k).length = l.length
  | [], _ => rfl
  | s :: l, k => by simp [lockL, lockL_len]
/-- What stays is known at the entry. -/
theorem G.roE {sp : Spec S} {robj : List (Nat × AO S)} (hc : Chk sp ro st) (h : G D cx ν0 (roOf sp ro st robj) { slots := st.slots, objs := lockObjs sp (delNs st.objs sp.robj), next := st.next } f w ν σ ms) :
    RoE D ν0 ν (roOf sp ro st robj) sp st.next := by
  refine ⟨fun o v hv => ?_, h.ext, fun j hj => ?_, fun q hq => ?_, fun q hq i hi hit => ?_, hc.cnodup, hc.lt, hc.clt⟩
  · rcases Nat.lt_or_ge o st.next with hlt | hge
    · exact hlt
    · have := h.fresh o hge
      rw [hv] at this; cases this
  · have := h.slots j
    unfold slotS at this
    rw [hj] at this
    exact ⟨_, _, this⟩
  · obtain ⟨m1, m2, rfl, h1, h2⟩ := h.objs.split
    obtain ⟨m, hm⟩ := h2.mem (o := q.1) (a := q.2) hq
    exact ⟨σ, m, hm⟩
  · obtain ⟨l, hl, hlen⟩ := hc.cobj q hq
    have hf : findN (delNs st.objs sp.robj) q.1 = some (.cells q.2.1 l) := by rw [findN_dels (hc.apart q hq)]; exact hl
    have hf2 := lockObjs_find (sp := sp) hf (hasC_iff.2 ⟨q, hq, rfl⟩)
    obtain ⟨m, hm, b, cs, _, _, hrow⟩ := h.objs.find (o := q.1) (by rw [findN_append, hf2])
    have hg := lockL_get (p := itemC sp.items q.1) (l := l) (k := 0) (i := i) (by omega) (by rw [Nat.zero_add]; exact hit)
    have hres := resL_lk (g := (roOf sp ro st robj).cell q.1) (k := 0) hg
    rw [Nat.zero_add] at hres
    obtain ⟨v, hv⟩ := getq (l := cs) (k := i) (by rw [hrow.1, resL_len, lockL_len]; omega)
    exact ⟨v, σ, hrow.2.1 i v _ hv hres⟩

theorem unlock_res {g h : Nat → SV S} : ∀ {l l0 : List (SV S)} {k : Nat}, (∀ i, g (k + i) = (resL h k l0).getD i .dead) → resL h k (unlockL l l0) = resL g k l
  | [], _, _, _ => rfl
  | s :: l, l0, k, hg => by
    have ht : ∀ i, g (k + 1 + i) = (resL h (k + 1) l0.tail).getD i .dead := by
      intro i
      have := hg (i + 1)
      have e : k + (i + 1) = k + 1 + i := by omega
      rw [e] at this
      rw [this]
      cases l0 with
      | nil => simp [resL]
      | cons x l0 => cases x <;> simp [resL]
    have ih := unlock_res (l := l) ht
    have h0 : g k = res1 (h k) (l0.head?.getD .dead) := by
      have := hg 0
      rw [Nat.add_zero] at this
      rw [this]
      cases l0 with
      | nil => rfl
      | cons x l0 => rw [resL_cons]; rfl
    cases s with
    | lk =>
      simp only [unlockL]
      rw [resL_cons, ih, ← h0]; rfl
    | _ => simp only [unlockL, resL]; rw [ih]
/-- Out of a way or a loop. -/
theorem G.leave {sp : Spec S} {robj : List (Nat × AO S)} {a : AS S} (hc : Chk sp ro st) (hr : pickN st.objs sp.robj = some robj) (h : G D cx ν0 (roOf sp ro st robj) a f w ν σ ms) : G D cx ν0 ro (merge sp st robj a) f w ν σ ms := by
  obtain ⟨hr1, hr2⟩ := pickN_ok hr
  have hcell : ∀ o, hasC sp.cobj o = false → (roOf sp ro st robj).cell o = ro.cell o := by
    intro o ho
    funext i
    simp only [roOf, ho, cond_false]
  have hstay : ∀ {os : List (Nat × AO S)} {ms : List HObj}, (∀ q ∈ os, hasC sp.cobj q.1 = false) → Objs D ν σ (roOf sp ro st robj).cell os ms → Objs D ν σ ro.cell os ms := by
    intro os
    induction os with
    | nil => intro ms _ ho; cases ms with | nil => trivial | cons => exact ho.elim
    | cons q os ih =>
      intro ms hq ho
      cases ms with
      | nil => exact ho.elim
      | cons m ms =>
        refine ⟨?_, ih (fun q' hq' => hq q' (by simp [hq'])) ho.2⟩
        obtain ⟨o, a⟩ := q
        have hoa := ho.1
        cases a with
        | cells ty l =>
          obtain ⟨b, cs, e1, e2, e3⟩ := hoa
          refine ⟨b, cs, e1, e2, ?_⟩
          rw [← hcell o (hq (o, .cells ty l) (by simp))]
          exact e3
        | vec e T l => exact hoa
        | frz T l => exact hoa
        | arr ty T N l => exact hoa
        | map K V F => exact hoa
        | iter K V F done cur => exact hoa
  have hdis : ∀ o ∈ st.objs.map (·.1), ∀ o' ∈ ro.objs.map (·.1), o ≠ o' := by
    have := hc.nodup
    rw [List.map_append] at this
    exact (List.nodup_append.1 this).2.2
  obtain ⟨m1, m2, rfl, h1, h2⟩ := h.objs.split
  refine ⟨h.mem, ?_, fun j => ?_, h.fresh, h.ext⟩
  · show Objs D ν σ ro.cell ((unlock sp st a.objs ++ robj) ++ ro.objs) (m1 ++ m2)
    rw [List.append_assoc]
    refine Objs.append ?_ (hstay (fun q hq => ?_) h2)
    · have ha := h1
      generalize a.objs = os at ha
      clear h h1 h2
      induction os generalizing m1 with
      | nil => cases m1 with | nil => trivial | cons => exact ha.elim
      | cons q os ih =>
        cases m1 with
        | nil => exact ha.elim
        | cons m m1 =>
          obtain ⟨o, ao⟩ := q
          have hih := ih m1 ha.2
          have hoa := ha.1
          cases ao with
          | cells ty l =>
            simp only [unlock]
            refine ⟨?_, hih⟩
            obtain ⟨b, cs, e1, e2, e3⟩ := hoa
            cases hb : hasC sp.cobj o with
            | false =>
              refine ⟨b, cs, e1, e2, ?_⟩
              rw [← hcell o hb]; exact e3
            | true =>
              refine ⟨b, cs, e1, e2, ?_⟩
              rw [unlock_res (g := (roOf sp ro st robj).cell o)]
              · exact e3
              · intro i
                rw [Nat.zero_add]
                obtain ⟨q', hq', rfl⟩ := hasC_iff.1 hb
                obtain ⟨l', hl', _⟩ := hc.cobj q' hq'
                simp only [roOf, hb, cond_true, hl']
          | vec e T l => exact ⟨hoa, hih⟩
          | frz T l => exact ⟨hoa, hih⟩
          | arr ty T N l => exact ⟨hoa, hih⟩
          | map K V F => exact ⟨hoa, hih⟩
          | iter K V F done cur => exact ⟨hoa, hih⟩
    · cases hb : hasC sp.cobj q.1 with
      | false => rfl
      | true =>
        obtain ⟨q', hq', he⟩ := hasC_iff.1 hb
        rcases List.mem_append.1 hq with hq | hq
        · exact absurd (by rw [he, ← hr1]; exact List.mem_map.2 ⟨q, hq, rfl⟩) (hc.apart q' hq')
        · obtain ⟨l, hl, _⟩ := hc.cobj q' hq'
          exact absurd he (hdis _ (List.mem_map.2 ⟨_, findN_mem hl, rfl⟩) _ (List.mem_map.2 ⟨q, hq, rfl⟩))
  · have : slotS ro (merge sp st robj a) j = slotS (roOf sp ro st robj) a j := by
      unfold slotS merge roOf
      simp only [hasN_append]
      cases h1 : hasN ro.lock j <;> cases h2 : hasN sp.lock j <;> simp [slotS, h1]
    rw [this]; exact h.slots j

theorem G.drew (h : G D cx ν0 ro st f w ν σ ms) : G D cx ν0 ro st f w.drew ν σ ms := ⟨h.mem.drew, h.objs, h.slots, h.fresh, h.ext⟩

theorem LpG_H : ∀ {l : List (Item S)} {body : HL l → (HL l → Prop) → Prop} {t : HL l}, LpG l body t → LpH body t
  | [], _, _, h => h
  | [_], _, _, h => fun X hX => h (fun x => X (x, ())) fun x _ hY hb => hX (x, ()) _ (fun u hu => hY u.1 hu) hb
  | [_, _], _, _, h => fun X hX => h (fun x y => X (x, y, ())) fun x y _ hY hb => hX (x, y, ()) _ (fun u hu => hY u.1 u.2.1 hu) hb
  | [_, _, _], _, _, h => fun X hX => h (fun x y z => X (x, y, z, ())) fun x y z _ hY hb => hX (x, y, z, ()) _ (fun u hu => hY u.1 u.2.1 u.2.2.1 hu) hb
  | [_, _, _, _], _, _, h => fun X hX => h (fun x y z v => X (x, y, z, v, ())) fun x y z v _ hY hb => hX (x, y, z, v, ()) _ (fun u hu => hY u.1 u.2.1 u.2.2.1 u.2.2.2.1 hu) hb
  | [_, _, _, _, _], _, _, h => fun X hX => h (fun x y z v w => X (x, y, z, v, w, ())) fun x y z v w _ hY hb => hX (x, y, z, v, w, ()) _ (fun u hu => hY u.1 u.2.1 u.2.2.1 u.2.2.2.1 u.2.2.2.2.1 hu) hb
  | _ :: _ :: _ :: _ :: _ :: _ :: _, _, _, h => h
theorem JnG_H : ∀ {l : List (Item S)} {k : HL l → Prop} {A : (HL l → Prop) → Prop}, JnG l k A → ∃ Y : HL l → Prop, (∀ t, Y t → k t) ∧ A Y
  | [], _, _, h => by obtain ⟨Y, h1, h2⟩ := h; exact ⟨_, fun _ hy => h1 hy, h2⟩
  | [_], _, _, h => by obtain ⟨Y, h1, h2⟩ := h; exact ⟨_, fun t hy => h1 t.1 hy, h2⟩
  | [_, _], _, _, h => by obtain ⟨Y, h1, h2⟩ := h; exact ⟨_, fun t hy => h1 t.1 t.2.1 hy, h2⟩
  | [_, _, _], _, _, h => by obtain ⟨Y, h1, h2⟩ := h; exact ⟨_, fun t hy => h1 t.1 t.2.1 t.2.2.1 hy, h2⟩
  | [_, _, _, _], _, _, h => by obtain ⟨Y, h1, h2⟩ := h; exact ⟨_, fun t hy => h1 t.1 t.2.1 t.2.2.1 t.2.2.2.1 hy, h2⟩
  | _ :: _ :: _ :: _ :: _ :: _, _, _, h => h

/-- A round and all that follow. -/
def Rounds (P : Program) (c : Code) (Q : Exit → Act → World → Prop) (a : Act) (w : World) : Prop :=
  ∀ (b : Frame) (k : List Go.Item) (cs : List Frame), ∃ e a' w', Q e a' w' ∧ Arrives P (lone (b.at a (.code c :: .inLoop c :: k)) cs w) b k cs e a' w'
theorem rounds_loop {P : Program} {c : Code} {Q : Exit → Act → World → Prop} {a : Act} {w : World} (h : Rounds P c Q a w) : (Code.loop c).wp P Q a w := by
  intro b k cs
  obtain ⟨e, a₁, w₁, hq, harr⟩ := h b k cs
  exact ⟨e, a₁, w₁, hq, .of_steps (.one step_loop) harr⟩
theorem rounds_next {P : Program} {c : Code} {Q : Exit → Act → World → Prop} {a : Act} {w : World} (h : c.wp P (Exit.then (Rounds P c Q) Q) a w) : Rounds P c Q a w := by
  intro b k cs
  obtain ⟨e, a₁, w₁, hq, harr⟩ := h b (.inLoop c :: k) cs
  cases e with
  | normal =>
    obtain ⟨e₂, a₂, w₂, hq₂, harr₂⟩ := hq b k cs
    exact ⟨e₂, a₂, w₂, hq₂, .of_steps (Steps.trans harr (.one step_inLoop)) harr₂⟩
  | exit id => exact ⟨_, a₁, w₁, hq, .pass (x := .inLoop c) rfl (fun _ _ => .inl (by simp)) harr⟩
  | goto l => exact ⟨_, a₁, w₁, hq, .pass (x := .inLoop c) rfl (fun _ _ => .inl (by simp)) harr⟩
  | ret => exact ⟨_, a₁, w₁, hq, .pass (x := .inLoop c) rfl (fun _ _ => .inl (by simp)) harr⟩
  | panic ch => exact ⟨_, a₁, w₁, hq, .pass (x := .inLoop c) rfl (fun _ _ => .inl (by simp)) harr⟩
  | outgrown => exact ⟨_, a₁, w₁, hq, .pass (x := .inLoop c) rfl (fun _ _ => .inl (by simp)) harr⟩

theorem planK_some {key : Nat} {o : Option (List (Nat × AO S))} {k : List (Nat × AO S) → Prop} (h : planK key ro st o k) : ∃ x, o = some x ∧ k x := by
  cases o with
  | some x => exact ⟨x, rfl, h⟩
  | none => exact h.elim
/-- Code does what its plain meaning says. -/
theorem vc_ok {E : Ev S} {inlh : InlH S} {C : Ro S → Prop} (hC : ∀ sp ro st robj, C (roOf sp ro st robj)) (hP : E.D.OkP E.P) (hmix : E.P.follows .mixedOrders = true) (hst : StH E inlh n C) : ∀ {c : Code} {ro : Ro S} {k : Kc S} {st : AS S} {f : Fr} {w : World} {ν : Nm} {σ : Hv} {ms : List HObj} {Q : Exit → Act → World → Prop},
    C ro → vcC E inlh n c ro k st → G E.D cx ν0 ro st f w ν σ ms → (∀ c a w, ¬ Q (.panic c) a w) → (∀ e st' f' w' ν' σ' ms', k e st' → G E.D cx ν0 ro st' f' w' ν' σ' ms' → Q e (mk n f') w') → c.wp E.P Q (mk n f) w := by
  intro c
  induction c with
  | skip => intro ro k st f w ν σ ms Q hro h hG _ hk; exact wp_skip (hk _ _ _ _ _ _ _ h hG)
  | region id ops draw =>
    intro ro k st f w ν σ ms Q hro h hG hQ hk
    simp only [vcC] at h
    cases draw with
    | false => exact wp_region_list (ops_ok hst hro h hG fun st' f' w' ν' σ' ms' hk' hG' => hk _ _ _ _ _ _ _ hk' hG')
    | true =>
      obtain ⟨hsel, h⟩ := bif_f h
      have := draw_ok (Q := Q) hP hst hro hsel hQ h hG.drew fun st' f' w' ν' σ' ms' hk' hG' => hk _ _ _ _ _ _ _ hk' hG'
      rw [← bt_zero] at this
      exact wp_region_any hmix (wpK_any _ _ _ _ _ this)
  | seq x y ihx ihy =>
    intro ro k st f w ν σ ms Q hro h hG hQ hk
    simp only [vcC] at h
    refine wp_seq ?_
    split at h
    · refine ihx hro h hG (fun c a w => hQ c a w) fun e st' f' w' ν' σ' ms' hk' hG' => ?_
      cases e with
      | normal => exact ihy hro hk' hG' hQ hk
      | _ => exact hk _ _ _ _ _ _ _ hk' hG'
    · rename_i sp _
      obtain ⟨robj, hr, h⟩ := planK_some h
      obtain ⟨hc, h⟩ := bif_f h
      have hc := cobjQ_ok hc
      obtain ⟨Y, hY, hA⟩ := JnG_H h
      obtain ⟨ms1, hG1⟩ := hG.enter hc hr
      have hE := hG1.roE hc
      refine ihx (hC _ _ _ _) hA hG1 (fun c a w => hQ c a w) fun e st' f' w' ν' σ' ms' hk' hG' => ?_
      cases e with
      | normal =>
        obtain ⟨t, ν2, σ2, ms2, ht, hG2⟩ := endI_ok hP.ok hE hG' hk'
        exact ihy hro (hY t ht) (hG2.leave hc hr) hQ hk
      | _ => exact hk _ _ _ _ _ _ _ hk' (hG'.leave hc hr)
  | cond c x y ihx ihy =>
    intro ro k st f w ν σ ms Q hro h hG hQ hk
    simp only [vcC] at h
    obtain ⟨b, hb, h⟩ := tst_ok (ev_ok (n := n) hG.slots c) h
    rcases h with ⟨rfl, h⟩ | ⟨rfl, h⟩
    · exact wp_cond_true (by rw [eval_mk]; exact hb) (ihx hro h hG hQ hk)
    · exact wp_cond_false (by rw [eval_mk]; exact hb) (ihy hro h hG hQ hk)
  | block id b ih =>
    intro ro k st f w ν σ ms Q hro h hG hQ hk
    refine wp_block (ih hro h hG (fun c a w => hQ c a w) fun e st' f' w' ν' σ' ms' hk' hG' => ?_)
    cases e with
    | exit i =>
      simp only [blockK] at hk'
      simp only [Exit.inBlock]
      cases hb : Nat.beq i id with
      | true =>
        rw [hb] at hk'
        rw [if_pos (Nat.eq_of_beq_eq_true hb)]
        exact hk _ _ _ _ _ _ _ hk' hG'
      | false =>
        rw [hb] at hk'
        rw [if_neg (fun he => by subst he; simp at hb)]
        exact hk _ _ _ _ _ _ _ hk' hG'
    | _ => exact hk _ _ _ _ _ _ _ hk' hG'
  | loop b ih =>
    intro ro k st f w ν σ ms Q hro h hG hQ hk
    simp only [vcC] at h
    split at h
    · exact h.elim
    · rename_i sp _
      obtain ⟨robj, hr, h⟩ := planK_some h
      obtain ⟨hc, h⟩ := bif_f h
      have hc := cobjQ_ok hc
      obtain ⟨ms1, hG1⟩ := hG.enter hc hr
      have hE := hG1.roE hc
      obtain ⟨t0, ν2, σ2, ms2, hL, hG2⟩ := endI_ok hP.ok hE hG1 h
      have hL := LpG_H hL
      refine rounds_loop (hL (fun t => ∀ f w ν σ ms, G E.D cx ν0 (roOf sp ro st robj) (stOf E.D sp st.next t) f w ν σ ms → Rounds E.P b Q (mk n f) w) (fun t Y hYX hb f w ν σ ms hG => ?_) f w ν2 σ2 ms2 hG2)
      refine rounds_next (ih (hC _ _ _ _) hb hG (fun c a w => hQ c a w) fun e st' f' w' ν' σ' ms' hk' hG' => ?_)
      cases e with
      | normal =>
        obtain ⟨t', ν3, σ3, ms3, ht, hG3⟩ := endI_ok hP.ok hE hG' hk'
        exact hYX t' ht f' w' ν3 σ3 ms3 hG3
      | _ => exact hk _ _ _ _ _ _ _ hk' (hG'.leave hc hr)
  | exit i => intro ro k st f w ν σ ms Q hro h hG _ hk; exact wp_exit (hk _ _ _ _ _ _ _ h hG)
  | scope b ih =>
    intro ro k st f w ν σ ms Q hro h hG hQ hk
    refine wp_scope_straight (ih hro h hG (fun c a w => hQ c a w) fun e st' f' w' ν' σ' ms' hk' hG' => ?_)
    cases e with
    | goto l => exact hk'.elim
    | _ => exact hk _ _ _ _ _ _ _ hk' hG'
  | ret => intro ro k st f w ν σ ms Q hro h hG _ hk; exact wp_ret (hk _ _ _ _ _ _ _ h hG)
  | _ => intro ro k st f w ν σ ms Q hro h; exact h.elim
#print axioms vc_ok
end Go.Fx
