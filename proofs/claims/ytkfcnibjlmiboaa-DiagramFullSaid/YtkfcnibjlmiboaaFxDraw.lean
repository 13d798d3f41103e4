/- A region that draws its order does what its plain meaning says. Conditions: those in the statements. -/
import Derived.Test.YtkfcnibjlmiboaaFxSnd
namespace Go.Fx
open Go Go.RowKit Go.Fl Go.Fl.Lk
variable {S : Sig} {P : Program} {D : Shp S} {ν ν' ν0 : Nm} {σ τ : Hv} {n : Nat} {f : Fr}
variable {w : World} {cx : Cx} {ro : Ro S} {st : AS S} {ms : List HObj} {ops : Array Oper} {Q : Exit → Act → World → Prop}

/-- Some blocks are as they were. -/
def Eqv (R : Nat → Prop) (w w' : World) : Prop := ∀ b, R b → w'.heap[b]? = w.heap[b]?
theorem Eqv.trans {R : Nat → Prop} {a b c : World} (h : Eqv R a b) (k : Eqv R b c) : Eqv R a c := fun x hx => (k x hx).trans (h x hx)
abbrev Prot := List (Nat × (Nat → Prop))
/-- Whatever order comes: what earlier operations read is left alone until one comes that waits for them. -/
def wpK (P : Program) (ops : Array Oper) (Q : Exit → Act → World → Prop) : Nat → Array Bool → Prot → Act → World → Prop
  | 0, listed, _, a, w => Region.ready .any ops listed = [] ∧ Q .normal a w
  | fuel + 1, listed, prot, a, w => (Region.ready .any ops listed = [] → Q .normal a w) ∧
    ∀ j ∈ Region.ready .any ops listed, wpOp P ops Q j (fun a' w' => (∀ q ∈ prot, depD ops j q.1 = false → Eqv q.2 w w') ∧ wpK P ops Q fuel (listed.setIfInBounds j true) (prot.filter fun q => !depD ops j q.1) a' w') a w
theorem wpK_any : ∀ (fuel : Nat) (listed : Array Bool) (prot : Prot) (a : Act) (w : World), wpK P ops Q fuel listed prot a w → wpAny P .any ops Q fuel listed a w
  | 0, _, _, _, _, h => h
  | fuel + 1, _, _, _, _, h => ⟨h.1, fun i hi => wpOp_mono (fun a w hk => wpK_any fuel _ _ a w hk.2) (h.2 i hi)⟩
theorem wpK_drop : ∀ (fuel : Nat) (listed : Array Bool) (prot prot' : Prot) (a : Act) (w : World), (∀ q ∈ prot, q ∈ prot') → wpK P ops Q fuel listed prot' a w → wpK P ops Q fuel listed prot a w
  | 0, _, _, _, _, _, _, h => h
  | fuel + 1, _, prot, prot', _, _, hs, h => ⟨h.1, fun i hi => wpOp_mono (fun a w hk => ⟨fun q hq => hk.1 q (hs q hq), wpK_drop fuel _ _ _ a w (fun q hq => by
      simp only [List.mem_filter] at hq ⊢
      exact ⟨hs q hq.1, hq.2⟩) hk.2⟩) (h.2 i hi)⟩
theorem depQ_no {j i : Nat} {oj : Oper} (hj : ops[j]? = some oj) (h : ∀ e ∈ oj.after, Region.binds .any e = true → e.on ≠ i) : depQ ops j i = false := by
  unfold depQ
  rw [hj]
  simp only [Array.any_eq_false]
  intro k hk
  cases hb : Region.binds .any (oj.after[k]) with
  | false => simp
  | true =>
    cases hq : Nat.beq (oj.after[k]).on i with
    | false => simp
    | true => exact absurd (Nat.eq_of_beq_eq_true hq) (h _ (by simp) hb)

/-- What is listed has all that it waits for listed. -/
def Closed (ops : Array Oper) (l : Array Bool) : Prop := ∀ j oj, ops[j]? = some oj → l.getD j false = true → ∀ e ∈ oj.after, Region.binds .any e = true → l.getD e.on false = true
theorem Closed.set {l : Array Bool} {j : Nat} (hc : Closed ops l) (hr : j ∈ Region.ready .any ops l) : Closed ops (l.setIfInBounds j true) := by
  obtain ⟨_, oj, hoj, hall⟩ := mem_ready.1 hr
  intro k ok hk hl e he hb
  refine getD_set_true ?_
  by_cases hjk : j = k
  · subst hjk
    rw [hoj] at hk; cases hk
    exact hall e he hb
  · rw [getD_set_ne false hjk] at hl
    exact hc k ok hk hl e he hb
theorem closed_zero {m : Nat} : Closed ops (bt m 0) := by
  intro j oj _ hl
  rw [← bt_zero] at hl
  rcases Nat.lt_or_ge j m with h | h
  · simp [h] at hl
  · simp [Array.getElem?_eq_none (show (Array.replicate m false).size ≤ j by simpa using h)] at hl
theorem not_on {l : Array Bool} {i k : Nat} (hi : l.getD i true = false) (hk : l.getD k false = true) : k ≠ i := by
  rintro rfl
  rcases Nat.lt_or_ge k l.size with h' | h'
  · simp [h'] at hi hk; rw [hi] at hk; cases hk
  · simp [Array.getElem?_eq_none h'] at hk
theorem anyN_no {f : Nat → Bool} : ∀ {l : List Nat}, (∀ m ∈ l, f m = false) → anyN f l = false
  | [], _ => rfl
  | m :: l, h => by
    unfold anyN
    rw [h m (by simp)]
    exact anyN_no fun m hm => h m (by simp [hm])
theorem depT_no {l : Array Bool} (hc : Closed ops l) {i : Nat} (hi : l.getD i true = false) : ∀ (k j : Nat), (∀ oj, ops[j]? = some oj → ∀ e ∈ oj.after, Region.binds .any e = true → l.getD e.on false = true) → depT ops k j i = false := by
  intro k
  have base : ∀ j, (∀ oj, ops[j]? = some oj → ∀ e ∈ oj.after, Region.binds .any e = true → l.getD e.on false = true) → depQ ops j i = false := by
    intro j hall
    cases ho : ops[j]? with
    | none => simp [depQ, ho]
    | some oj => exact depQ_no ho fun e he hb => not_on hi (hall oj ho e he hb)
  induction k with
  | zero => exact base
  | succ k ih =>
    intro j hall
    unfold depT
    rw [base j hall]
    refine anyN_no fun m hm => ih m fun om hom e he hb => ?_
    unfold datasQ at hm
    cases ho : ops[j]? with
    | none => rw [ho] at hm; cases hm
    | some oj =>
      rw [ho] at hm
      obtain ⟨e', he', rfl⟩ := List.mem_map.1 hm
      obtain ⟨he', hg⟩ := List.mem_filter.1 he'
      refine hc _ om hom (hall oj ho e' (Array.mem_toList_iff.1 he') ?_) e he hb
      unfold Region.binds
      split at hg
      · rename_i hgd; rw [hgd]
      · cases hg
theorem wpK_first {R : Nat → Prop} {w0 : World} {i : Nat} {oi : Oper} {v : Value} (hi : ops[i]? = some oi) (hsel : ∀ (j : Nat) (o : Oper) cs b, ops[j]? = some o → o.op ≠ .select cs b) (hQ : ∀ c a w, ¬ Q (.panic c) a w) :
    ∀ (fuel : Nat) (listed : Array Bool) (prot : Prot) (a : Act) (w : World), Closed ops listed → Eqv R w0 w →
      (∀ j oj, ops[j]? = some oj → j ≠ i → listed.getD j true = false → (∀ e ∈ oj.after, Region.binds .any e = true → e.on ≠ i) → oi.apart ops oj = true) →
      i ∈ Region.ready .any ops listed → Still P ops (Eqv R w0) i oi v a → wpK P ops Q fuel (listed.setIfInBounds i true) ((i, R) :: prot) (a.put oi.dst v) w → wpK P ops Q (fuel + 1) listed prot a w := by
  have same : ∀ (fuel : Nat) (listed : Array Bool) (prot : Prot) (a : Act) (w : World), Eqv R w0 w → Still P ops (Eqv R w0) i oi v a → wpK P ops Q fuel (listed.setIfInBounds i true) ((i, R) :: prot) (a.put oi.dst v) w →
      wpOp P ops Q i (fun a' w' => (∀ q ∈ prot, depD ops i q.1 = false → Eqv q.2 w w') ∧ wpK P ops Q fuel (listed.setIfInBounds i true) (prot.filter fun q => !depD ops i q.1) a' w') a w := by
    intro fuel listed prot a w hJ hy H
    refine wpOp_q (hy w hJ _ ⟨fun q _ _ b _ => rfl, wpK_drop _ _ _ _ _ _ (fun q hq => ?_) H⟩)
    exact List.mem_cons_of_mem _ (List.mem_filter.1 hq).1
  intro fuel
  induction fuel with
  | zero =>
    intro listed prot a w _ hJ _ hr hy H
    refine ⟨fun h => (by rw [h] at hr; cases hr), fun j hj => ?_⟩
    by_cases hji : j = i
    · subst hji; exact same 0 listed prot a w hJ hy H
    · have := ready_mono hj hji
      rw [H.1] at this
      cases this
  | succ fuel ih =>
    intro listed prot a w hcl hJ hfree hr hy H
    refine ⟨fun h => (by rw [h] at hr; cases hr), fun j hj => ?_⟩
    by_cases hji : j = i
    · subst hji; exact same (fuel + 1) listed prot a w hJ hy H
    · have h1 := H.2 j (ready_mono hj hji)
      obtain ⟨hjun, oj, hoj, hall⟩ := mem_ready.1 hj
      have hnot : ∀ e ∈ oj.after, Region.binds .any e = true → e.on ≠ i := fun e he hb heq => by
        have h1 := hall e he hb
        have h0 := (mem_ready.1 hr).1
        rw [heq] at h1
        rcases Nat.lt_or_ge i listed.size with h' | h'
        · simp [h'] at h0 h1; rw [h0] at h1; cases h1
        · simp [Array.getElem?_eq_none h'] at h1
      have hdep : depD ops j i = false := depT_no hcl (mem_ready.1 hr).1 _ j fun o ho => by rw [hoj] at ho; cases ho; exact hall
      have h2 := opJ_put hi hoj (hfree j oj hoj hji hjun hnot) (fun cs b => hsel i oi cs b hi) (fun cs b => hsel j oj cs b hoj) (fun c a w h => absurd h (hQ _ _ _)) hy h1
      have hfree' : ∀ k ok, ops[k]? = some ok → k ≠ i → (listed.setIfInBounds j true).getD k true = false →
          (∀ e ∈ ok.after, Region.binds .any e = true → e.on ≠ i) → oi.apart ops ok = true := fun k ok hk hki hun hno => by
        refine hfree k ok hk hki ?_ hno
        by_cases hjk : j = k
        · subst hjk; exact hjun
        · rw [getD_set_ne true hjk] at hun; exact hun
      refine wpOp_mono (fun a' w' h3 => ?_) h2
      obtain ⟨hst, hpr, hwp⟩ := h3
      refine ⟨fun q hq hd => hpr q (List.mem_cons_of_mem _ hq) hd, ih (listed.setIfInBounds j true) _ a' w' (hcl.set hj) (hJ.trans (hpr (i, R) (by simp) hdep)) hfree' (ready_mono hr (Ne.symm hji)) hst ?_⟩
      rw [Array.setIfInBounds_comm _ _ hji]
      rw [List.filter_cons_of_pos (by simp [hdep])] at hwp
      exact hwp

/-! The walk through such a region. -/
theorem firstQ_ok {m mask : Nat} {isP : Oper → Bool} : ∀ {rs : List Nat} {i : Nat}, firstQ ops m mask isP rs = some i → i ∈ rs ∧ ∃ o, ops[i]? = some o ∧ isP o = true ∧ o.dst.isSome = true ∧ Region.free .any ops (bt m mask) i = true
  | [], _, h => by cases h
  | x :: rs, i, h => by
    simp only [firstQ] at h
    split at h
    case h_2 => cases h
    rename_i o ho
    cases hc : (isP o && o.dst.isSome && Region.free .any ops (bt m mask) x) with
    | true =>
      rw [hc] at h; cases h
      obtain ⟨hc, h3⟩ := and_b hc
      obtain ⟨h1, h2⟩ := and_b hc
      exact ⟨by simp, o, ho, h1, h2, h3⟩
    | false =>
      rw [hc] at h
      obtain ⟨h1, h2⟩ := firstQ_ok h
      exact ⟨by simp [h1], h2⟩
theorem allR_all {g : Nat → Prop} : ∀ {l : List Nat}, allR g l → ∀ i ∈ l, g i
  | [], _, i, hi => by cases hi
  | [x], h, i, hi => by simp at hi; subst hi; exact h
  | x :: y :: l, h, i, hi => by
    rcases List.mem_cons.1 hi with rfl | hi
    · exact h.1
    · exact allR_all (l := y :: l) h.2 i hi

/-- What an operation that was taken early reads. -/
def PR (ν : Nm) (σ : Hv) (a : Nat × List Nat) (q : Nat × (Nat → Prop)) : Prop :=
  q.1 = a.1 ∧ ∀ b, q.2 b → σ b ≠ none ∨ ∃ o ∈ a.2, ∃ v, ν o = some v ∧ vfoot v = some b
theorem PR.mono {a : Nat × List Nat} {q : Nat × (Nat → Prop)} (h : PR ν σ a q) (hn : Ext ν ν') (hs : Sub σ τ) : PR ν' τ a q := by
  refine ⟨h.1, fun b hb => (h.2 b hb).imp (fun h1 h2 => ?_) fun ⟨o, ho, v, hv, hf⟩ => ⟨o, ho, v, hn _ _ hv, hf⟩⟩
  cases hq : σ b with
  | none => exact h1 hq
  | some x => rw [hs b x hq] at h2; cases h2
def PRs (ν : Nm) (σ : Hv) : List (Nat × List Nat) → Prot → Prop
  | [], [] => True
  | a :: l, q :: l' => PR ν σ a q ∧ PRs ν σ l l'
  | _, _ => False
theorem PRs.mono : ∀ {l : List (Nat × List Nat)} {l' : Prot}, PRs ν σ l l' → Ext ν ν' → Sub σ τ → PRs ν' τ l l'
  | [], [], _, _, _ => trivial
  | _ :: _, _ :: _, h, hn, hs => ⟨h.1.mono hn hs, PRs.mono h.2 hn hs⟩
theorem PRs.filter {j : Nat} : ∀ {l : List (Nat × List Nat)} {l' : Prot}, PRs ν σ l l' → PRs ν σ (prune ops j l) (l'.filter fun q => !depD ops j q.1)
  | [], [], _ => trivial
  | a :: l, q :: l', h => by
    have ih := PRs.filter (j := j) h.2
    unfold prune at ih ⊢
    rw [List.filter_cons, List.filter_cons, h.1.1]
    split
    · exact ⟨h.1, ih⟩
    · exact ih
theorem PRs.mem : ∀ {l : List (Nat × List Nat)} {l' : Prot}, PRs ν σ l l' → ∀ q ∈ l', ∃ a ∈ l, PR ν σ a q
  | [], [], _, q, hq => by cases hq
  | a :: l, q' :: l', h, q, hq => by
    rcases List.mem_cons.1 hq with rfl | hq
    · exact ⟨a, by simp, h.1⟩
    · obtain ⟨a', h1, h2⟩ := PRs.mem h.2 q hq
      exact ⟨a', by simp [h1], h2⟩

theorem draw_ok {E : Ev S} {inlh : InlH S} {C : Ro S → Prop} (hP : E.D.OkP E.P) (hst : StH E inlh n C) (hro : C ro) (hsel : Region.noSelect ops = true) (hQ : ∀ c a w, ¬ Q (.panic c) a w) {m : Nat} {k : AS S → Prop} :
    ∀ {fuel mask : Nat} {pa : List (Nat × List Nat)} {prot : Prot} {st : AS S} {f : Fr} {w : World} {ν : Nm} {σ : Hv} {ms : List HObj}, Closed ops (bt m mask) → drawS E inlh n ro ops m k fuel mask pa st → G E.D cx ν0 ro st f w ν σ ms → PRs ν σ pa prot →
    (∀ st' f' w' ν' σ' ms', k st' → G E.D cx ν0 ro st' f' w' ν' σ' ms' → Q .normal (mk n f') w') → wpK E.P ops Q fuel (bt m mask) prot (mk n f) w := by
  intro fuel
  induction fuel with
  | zero =>
    intro mask pa prot st f w ν σ ms _ h hG _ hk
    simp only [drawS] at h
    obtain ⟨h1, h2⟩ := bif_f h
    exact ⟨List.isEmpty_iff.1 h1, hk _ _ _ _ _ _ h2 hG⟩
  | succ fuel ih =>
    intro mask pa prot st f w ν σ ms hcl h hG hpr hk
    simp only [drawS] at h
    split at h
    · rename_i hr
      exact ⟨fun _ => hk _ _ _ _ _ _ h hG, fun j hj => by rw [hr] at hj; cases hj⟩
    · rename_i hne
      split at h
      · rename_i i hfirst
        obtain ⟨hi, o, ho, _, hdst, hfree⟩ := firstQ_ok hfirst
        rw [ho] at h
        simp only at h
        rcases guard_ok hG h with ⟨hw, st1, hy, _, hG1⟩ | ⟨hw, st1, hno, _, hG1⟩
        · -- it is carried out
          cases hc : (isEff (obS ro st1) (evS n ro st1) o.op || isCall o.op) with
          | true => rw [hc] at hy; exact hy.elim
          | false =>
            rw [hc] at hy
            simp only [cond_false] at hy
            obtain ⟨oh, kn, hms⟩ := hG1.kn (n := n)
            obtain ⟨rd, s, v, hK, hs, hrun⟩ := pure_ok hP kn hy
            obtain ⟨st', hk', _, _, hG'⟩ := hG1.put hs hK
            let R : Nat → Prop := fun b => σ b ≠ none ∨ ∃ o ∈ rd, ∃ a, obS ro st1 o = some a ∧ (oh o).foot = some b
            refine wpK_first (R := R) (w0 := w) ho (Region.noSelect_spec hsel) hQ fuel _ prot _ w hcl (fun b _ => rfl) (Region.free_spec ho hfree) hi (v := v) ?_ ?_
            · intro w' hE K' hK'
              unfold wpOp
              simp only [ho, if_pos hw]
              left
              have hV : View σ w' := fun b ob hb => by
                rw [hE b (.inl (by rw [hb]; simp))]
                exact hG1.mem.view b ob hb
              have hr := hrun w' o rfl hV (fun o' ho' a ha => (oh o').stay w w' (fun b hb => hE b (.inr ⟨o', ho', a, ha, hb⟩)) (hG1.mem.own _ (hms o' a ha)))
              unfold Oper.wp
              rw [eval_mk, hr]
              exact hK'
            · rw [mk_put, bt_set]
              refine ih (by rw [← bt_set]; exact hcl.set hi) hk' hG' ⟨⟨rfl, fun b hb => hb.imp id fun ⟨o', ho', a, ha, hf⟩ => ?_⟩, hpr⟩ hk
              obtain ⟨v', hv', hvf⟩ := (kn.o o' a ha).1.foot (kn.o o' a ha).2 hf
              exact ⟨o', ho', v', hv', hvf⟩
        · -- it is passed over
          obtain ⟨st', hk', _, _, hG'⟩ := hG1.put (v := undef) .und hno
          refine wpK_first (R := fun _ => False) (w0 := w) ho (Region.noSelect_spec hsel) hQ fuel _ prot _ w hcl (fun b _ => rfl) (Region.free_spec ho hfree) hi (v := undef) ?_ ?_
          · intro w' hE K' hK'
            unfold wpOp
            simp only [ho, hw, Bool.false_eq_true, if_false]
            exact hK'
          · rw [mk_put, bt_set]
            exact ih (by rw [← bt_set]; exact hcl.set hi) hk' hG' ⟨⟨rfl, fun b hb => hb.elim⟩, hpr⟩ hk
      · refine ⟨fun hr => (hne hr).elim, fun j hj => ?_⟩
        have h1 := allR_all h j hj
        cases ho : ops[j]? with
        | none => rw [ho] at h1; exact h1.elim
        | some o =>
          rw [ho] at h1
          simp only at h1
          unfold wpOp
          simp only [ho]
          rcases guard_ok hG h1 with ⟨hw, st1, hy, hobj, hG1⟩ | ⟨hw, st1, hno, _, hG1⟩
          · rw [if_pos hw]
            left
            refine hst hro hy hG1 _ _ fun rd st' f' w' ν' σ' ms' hk' hG' hext hsub _ hleft => ⟨fun q hq hd => ?_, ?_⟩
            · obtain ⟨a, ha, hpa⟩ := hpr.mem q hq
              intro b hb
              rcases hpa.2 b hb with hσ | ⟨o', ho', v, hv, hvf⟩
              · cases hq : σ b with
                | none => exact absurd hq hσ
                | some x => rw [hG'.mem.view b x (hsub b x hq), hG.mem.view b x hq]
              · rcases hleft with rfl | ⟨tl, hban, hl⟩
                · rfl
                · have hba := List.all_eq_true.1 hban a ha
                  rw [← hpa.1, hd, Bool.false_or] at hba
                  have hbo := List.all_eq_true.1 hba o' ho'
                  obtain ⟨h5, h6⟩ := and_b hbo
                  have hno : o' ∉ tl := hasN_mem (by simpa using h5)
                  cases hob : obS ro st1 o' with
                  | none => rw [hob] at h6; cases h6
                  | some ao =>
                    rw [hob] at h6
                    refine hl b o' ao v hno (obS_find ▸ hob) ?_ hv hvf
                    cases ao <;> first | rfl | cases h6
            · rw [bt_set]
              exact ih (by rw [← bt_set]; exact hcl.set hj) hk' hG' ((hpr.mono hext hsub).filter) hk
          · simp only [hw, Bool.false_eq_true, if_false]
            rw [mk_put]
            obtain ⟨st', hk', _, _, hG'⟩ := hG1.put (v := undef) .und hno
            refine ⟨fun q _ _ b _ => rfl, ?_⟩
            rw [bt_set]
            exact ih (by rw [← bt_set]; exact hcl.set hj) hk' hG' hpr.filter hk
#print axioms draw_ok
end Go.Fx
