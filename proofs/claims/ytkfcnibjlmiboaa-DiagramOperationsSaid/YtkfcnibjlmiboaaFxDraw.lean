/- A region that draws its order does what its plain meaning says. Conditions: those in the statements. -/
import Derived.Test.YtkfcnibjlmiboaaFxSnd
namespace Go.Fx
open Go Go.RowKit Go.Fl Go.Fl.Lk
variable {S : Sig} {P : Program} {D : Shp S} {ν ν' ν0 : Nm} {σ τ : Hv} {n : Nat} {f : Fr}
variable {w : World} {cx : Cx} {ro : Ro S} {st : AS S} {ms : List HObj} {ops : Array Oper} {Q : Exit → Act → World → Prop}

/-- Some blocks are as they were. -/
def Eqv (R : Nat → Prop) (w w' : World) : Prop := ∀ b, R b → w'.heap[b]? = w.heap[b]?
theorem Eqv.trans {R : Nat → Prop} {a b c : World} (h : Eqv R a b) (k : Eqv R b c) : Eqv R a c := fun x hx => (k x hx).trans (h x hx)
abbrev Prot := List (Nat × (Nat → Prop))
/-- Whatever order comes: what earlier operations read is left alone until one comes that waits for them. -/
def wpK (P : Program) (ops : Array Oper) (Q : Exit → Act → World → Prop) : Nat → Array Bool → Prot → Act → World → Prop
  | 0, listed, _, a, w => Region.ready .any ops listed = [] ∧ Q .normal a w
  | fuel + 1, listed, prot, a, w => (Region.ready .any ops listed = [] → Q .normal a w) ∧
    ∀ j ∈ Region.ready .any ops listed, wpOp P ops Q j (fun a' w' => (∀ q ∈ prot, depD ops j q.1 = false → Eqv q.2 w w') ∧ wpK P ops Q fuel (listed.setIfInBounds j true) (prot.filter fun q => !depD ops j q.1) a' w') a w
theorem wpK_any : ∀ (fuel : Nat) (listed : Array Bool) (prot : Prot) (a : Act) (w : World), wpK P ops Q fuel listed prot a w → wpAny P .any ops Q fuel listed a w
  | 0, _, _, _, _, h => h
  | fuel + 1, _, _, _, _, h => ⟨h.1, fun i hi => wpOp_mono (fun a w hk => wpK_any fuel _ _ a w hk.2) (h.2 i hi)⟩
theorem wpK_drop : ∀ (fuel : Nat) (listed : Array Bool) (prot prot' : Prot) (a : Act) (w : World), (∀ q ∈ prot, q ∈ prot') → wpK P ops Q fuel listed prot' a w → wpK P ops Q fuel listed prot a w
  | 0, _, _, _, _, _, _, h => h
  | fuel + 1, _, prot, prot', _, _, hs, h => ⟨h.1, fun i hi => wpOp_mono (fun a w hk => ⟨fun q hq => hk.1 q (hs q hq), wpK_drop fuel _ _ _ a w (fun q hq => by
      simp only [List.mem_filter] at hq ⊢
      exact ⟨hs q hq.1, hq.2⟩) hk.2⟩) (h.2 i hi)⟩
theorem depQ_no {j i : Nat} {oj : Oper} (hj : ops[j]? = some oj) (h : ∀ e ∈ oj.after, Region.binds .any e = true → e.on ≠ i) : depQ ops j i = false := by
  unfold depQ
  rw [hj]
  simp only [Array.any_eq_false]
  intro k hk
  cases hb : Region.binds .any (oj.after[k]) with
  | false => simp
  | true =>
    cases hq : Nat.beq (oj.after[k]).on i with
    | false => simp
    | true => exact absurd (Nat.eq_of_beq_eq_true hq) (h _ (by simp) hb)

/-- What is listed has all that it waits for listed. -/
def Closed (ops : Array Oper) (l : Array Bool) : Prop := ∀ j oj, ops[j]? = some oj → l.getD j false = true → ∀ e ∈ oj.after, Region.binds .any e = true → l.getD e.on false = true
theorem Closed.set {l : Array Bool} {j : Nat} (hc : Closed ops l) (hr : j ∈ Region.ready .any ops l) : Closed ops (l.setIfInBounds j true) := by
  obtain ⟨_, oj, hoj, hall⟩ := mem_ready.1 hr
  intro k ok hk hl e he hb
  refine getD_set_true ?_
  by_cases hjk : j = k
  · subst hjk
    rw [hoj] at hk; cases hk
    exact hall e he hb
  · rw [getD_set_ne false hjk] at hl
    exact hc k ok hk hl e he hb
theorem closed_zero {m : Nat} : Closed ops (bt m 0) := by
  intro j oj _ hl
  rw [← bt_zero] at hl
  rcases Nat.lt_or_ge j m with h | h
  · simp [h] at hl
  · simp [Array.getElem?_eq_none (show (Array.replicate m false).size ≤ j by simpa using h)] at hl
theorem not_on {l : Array Bool} {i k : Nat} (hi : l.getD i true = false) (hk : l.getD k false = true) : k ≠ i := by
  rintro rfl
  rcases Nat.lt_or_ge k l.size with h' | h'
  · simp [h'] at hi hk; rw [hi] at hk; cases hk
  · simp [Array.getElem?_eq_none h'] at hk
theorem anyN_no {f : Nat → Bool} : ∀ {l : List Nat}, (∀ m ∈ l, f m = false) → anyN f l = false
  | [], _ => rfl
  | m :: l, h => by
    unfold anyN
    rw [h m (by simp)]
    exact anyN_no fun m hm => h m (by simp [hm])
theorem depT_no {l : Array Bool} (hc : Closed ops l) {i : Nat} (hi : l.getD i true = false) : ∀ (k j : Nat), (∀ oj, ops[j]? = some oj → ∀ e ∈ oj.after, Region.binds .any e = true → l.getD e.on false = true) → depT ops k j i = false := by
  intro k
  have base : ∀ j, (∀ oj, ops[j]? = some oj → ∀ e ∈ oj.after, Region.binds .any e = true → l.getD e.on false = true) → depQ ops j i = false := by
    intro j hall
    cases ho : ops[j]? with
    | none => simp [depQ, ho]
    | some oj => exact depQ_no ho fun e he hb => not_on hi (hall oj ho e he hb)
  induction k with
  | zero => exact base
  | succ k ih =>
    intro j hall
    unfold depT
    rw [base j hall]
    refine anyN_no fun m hm => ih m fun om hom e he hb => ?_
    unfold datasQ at hm
    cases ho : ops[j]? with
    | none => rw [ho] at hm; cases hm
    | some oj =>
      rw [ho] at hm
      obtain ⟨e', he', rfl⟩ := List.mem_map.1 hm
      obtain ⟨he', hg⟩ := List.mem_filter.1 he'
      refine hc _ om hom (hall oj ho e' (Array.mem_toList_iff.1 he') ?_) e he hb
      unfold Region.binds
      split at hg
      · rename_i hgd; rw [hgd]
      · cases hg
theorem wpK_first {R : Nat → Prop} {w0 : World} {i : Nat} {oi : Oper} {v : Value} (hi : ops[i]? = some oi) (hsel : ∀ (j : Nat) (o : Oper) cs b, ops[j]? = some o → o.op ≠ .select cs b) (hQ : ∀ c a w, ¬ Q (.panic c) a w) :
    ∀ (fuel : Nat) (listed : Array Bool) (prot : Prot) (a : Act) (w : World), Closed ops listed → Eqv R w0 w →
      (∀ j oj, ops[j]? = some oj → j ≠ i → listed.getD j true = false → (∀ e ∈ oj.after, Region.binds .any e = true → e.on ≠ i) → oi.apart ops oj = true) →
      i ∈ Region.ready .any ops listed → Still P ops (Eqv R w0) i oi v a → wpK P ops Q fuel (listed.setIfInBounds i true) ((i, R) :: prot) (a.put oi.dst v) w → wpK P ops Q (fuel + 1) listed prot a w := by
  have same : ∀ (fuel : Nat) (listed : Array Bool) (prot : Prot) (a : Act) (w : World), Eqv R w0 w → Still P ops (Eqv R w0) i oi v a → wpK P ops Q fuel (listed.setIfInBounds i true) ((i, R) :: prot) (a.put oi.dst v) w →
      wpOp P ops Q i (fun a' w' => (∀ q ∈ prot, depD ops i q.1 = false → Eqv q.2 w w') ∧ wpK P ops Q fuel (listed.setIfInBounds i true) (prot.filter fun q => !depD ops i q.1) a' w') a w := by
    intro fuel listed prot a w hJ hy H
    refine wpOp_q (hy w hJ _ ⟨fun q _ _ b _ => rfl, wpK_drop _ _ _ _ _ _ (fun q hq => ?_) H⟩)
    exact List.mem_cons_of_mem _ (List.mem_filter.1 hq).1
  intro fuel
  induction fuel with
  | zero =>
    intro listed prot a w _ hJ _ hr hy H
    refine ⟨fun h => (by rw [h] at hr; cases hr), fun j hj => ?_⟩
    by_cases hji : j = i
    · subst hji; exact same 0 listed prot a w hJ hy H
    · have := ready_mono hj hji
      rw [H.1] at this
      cases this
  | succ fuel ih =>
    intro listed prot a w hcl hJ hfree hr hy H
    refine ⟨fun h => (by rw [h] at hr; cases hr), fun j hj => ?_⟩
    by_cases hji : j = i
    · subst hji; exact same (fuel + 1) listed prot a w hJ hy H
    · have h1 := H.2 j (ready_mono hj hji)
      obtain ⟨hjun, oj, hoj, hall⟩ := mem_ready.1 hj
      have hnot : ∀ e ∈ oj.after, Region.binds .any e = true → e.on ≠ i := fun e he hb heq => by
        have h1 := hall e he hb
        have h0 := (mem_ready.1 hr).1
        rw [heq] at h1
        rcases Nat.lt_or_ge i listed.size with h' | h'
        · simp [h'] at h0 h1; rw [h0] at h1; cases h1
        · simp [Array.getElem?_eq_none h'] at h1
      have hdep : depD ops j i = false := depT_no hcl (mem_ready.1 hr).1 _ j fun o ho => by rw [hoj] at ho; cases ho; exact hall
      have h2 := opJ_put hi hoj (hfree j oj hoj hji hjun hnot) (fun cs b => hsel i oi cs b hi) (fun cs b => hsel j oj cs b hoj) (fun c a w h => absurd h (hQ _ _ _)) hy h1
      have hfree' : ∀ k ok, ops[k]? = some ok → k ≠ i → (listed.setIfInBounds j true).getD k true = false →
          (∀ e ∈ ok.after, Region.binds .any e = true → e.on ≠ i) → oi.apart ops ok = true := fun k ok hk hki hun hno => by
        refine hfree k ok hk hki ?_ hno
        by_cases hjk : j = k
        · subst hjk; exact hjun
        · rw [getD_set_ne true hjk] at hun; exact hun
      refine wpOp_mono (fun a' w' h3 => ?_) h2
      obtain ⟨hst, hpr, hwp⟩ := h3
      refine ⟨fun q hq hd => hpr q (List.mem_cons_of_mem _ hq) hd, ih (listed.setIfInBounds j true) _ a' w' (hcl.set hj) (hJ.trans (hpr (i, R) (by simp) hdep)) hfree' (ready_mono hr (Ne.symm hji)) hst ?_⟩
      rw [Array.setIfInBounds_comm _ _ hji]
      rw [List.filter_cons_of_pos (by simp [hdep])] at hwp
      exact hwp

/-! The walk through such a region. -/
theorem firstQ_ok {m mask : Nat} {isP : Oper → Bool} : ∀ {rs : List Nat} {i : Nat}, firstQ ops m mask isP rs = some i → i ∈ rs ∧ ∃ o, ops[i]? = some o ∧ isP o = true ∧ o.dst.isSome = true ∧ Region.free .any ops (bt m mask) i = true
  | [], _, h => by cases h
  | x :: rs, i, h => by
    simp only [firstQ] at h
    split at h
    case h_2 => cases h
    rename_i o ho
    cases hc : (isP o && o.dst.isSome && Region.free .any ops (bt m mask) x) with
    | true =>
      rw [hc] at h; cases h
      obtain ⟨hc, h3⟩ := and_b hc
      obtain ⟨h1, h2⟩ := and_b hc
      exact ⟨by simp, o, ho, h1, h2, h3⟩
    | false =>
      rw [hc] at h
      obtain ⟨h1, h2⟩ := firstQ_ok h
      exact ⟨by simp [h1], h2⟩
theorem allR_all {g : Nat → Prop} : ∀ {l : List Nat}, allR g l → ∀ i ∈ l, g i
  | [], _, i, hi => by cases hi
  | [x], h, i, hi => by simp at hi; subst hi; exact h
  | x :: y :: l, h, i, hi => by
    rcases List.mem_cons.1 hi with rfl | hi
    · exact h.1
    · exact allR_all (l := y :: l) h.2 i hi

/-- What an operation that was taken early reads. -/
def PR (ν : Nm) (σ : Hv) (w : World) (a : Nat × List Nat) (q : Nat × (Nat → Prop)) : Prop :=
  q.1 = a.1 ∧ ∀ b, q.2 b → b < w.heap.size ∧ (σ b ≠ none ∨ ∃ o ∈ a.2, ∃ v, ν o = some v ∧ vfoot v = some b)
def PRs (ν : Nm) (σ : Hv) (w : World) (l : List (Nat × List Nat)) (l' : Prot) : Prop := ∀ q ∈ l', ∃ a ∈ l, PR ν σ w a q
theorem PRs.mono {l : List (Nat × List Nat)} {l' : Prot} {w' : World} (h : PRs ν σ w l l') (hn : Ext ν ν') (hs : Sub σ τ) (hw : w.heap.size ≤ w'.heap.size) : PRs ν' τ w' l l' := fun q hq => by
  obtain ⟨a, ha, h1, h2⟩ := h q hq
  refine ⟨a, ha, h1, fun b hb => ⟨Nat.lt_of_lt_of_le (h2 b hb).1 hw, (h2 b hb).2.imp (fun h1 h2 => ?_) fun ⟨o, ho, v, hv, hf⟩ => ⟨o, ho, v, hn _ _ hv, hf⟩⟩⟩
  cases hq : σ b with
  | none => exact h1 hq
  | some x => rw [hs b x hq] at h2; cases h2
theorem PRs.filter {j : Nat} {l : List (Nat × List Nat)} {l' : Prot} (h : PRs ν σ w l l') : PRs ν σ w (prune ops j l) (l'.filter fun q => !depD ops j q.1) := fun q hq => by
  obtain ⟨hq, hd⟩ := List.mem_filter.1 hq
  obtain ⟨a, ha, hp⟩ := h q hq
  exact ⟨a, List.mem_filter.2 ⟨ha, by rw [← hp.1]; exact hd⟩, hp⟩
theorem PRs.sub {l : List (Nat × List Nat)} {l' l'' : Prot} (h : PRs ν σ w l l') (hs : ∀ q ∈ l'', q ∈ l') : PRs ν σ w l l'' := fun q hq => h q (hs q hq)

/-! New variables, made early or late. -/
theorem alloc_inv {t : TypeId} {e : Operand → SV S} {ob : Nat → Option (AO S)} {nx : Nat} {K : List Nat → List (Nat × AO S) → Option (SV S) → Prop} (h : effOp P D e ob nx (.alloc t) K) :
    ∃ a, zAO P D t = some a ∧ K [] [(nx, a)] (some (.ref nx 0)) := by
  simp only [effOp] at h
  unfold zAO
  split at h
  · rename_i T N ha
    rw [ha]
    exact ⟨_, rfl, h⟩
  · rename_i ha
    rw [ha]
    split at h
    case h_2 => exact h.elim
    rename_i z hz
    rw [hz]
    obtain ⟨hz1, h⟩ := bif_f h
    exact ⟨_, by simp only [hz1, cond_true], h⟩
theorem alloc_run {t : TypeId} {a : AO S} (hP : D.OkP P) (hz : zAO P D t = some a) : ∃ (cs : Array Value), (∀ (r : Operand → Value) (oo : Oper) (w : World), oo.op = .alloc t → (execOp r oo).run P w = .ok (.value (.pointer (some ⟨w.heap.size, 0, none⟩))) (w.alloc (.cells cs t))) ∧
    ∀ (ν : Nm) (σ : Hv) (nx b : Nat) (lkc : Nat → Nat → SV S), ν nx = some (.pointer (some ⟨b, 0, none⟩)) → ORep D ν σ lkc nx a (blk b t cs.toList) := by
  unfold zAO at hz
  split at hz
  · rename_i T N ha
    cases hz
    obtain ⟨cs, hz, hE⟩ := hP.arr _ _ _ ha
    exact ⟨cs.toArray, fun r oo w hoo => by simp [execOp, hoo, Instr.alloc, hz, newVar, newRow, newObj, Sem.run]; try rfl, fun ν σ nx b lkc hn => ⟨_, _, hn, by simp, hE σ, by simp⟩⟩
  · split at hz
    case h_2 => cases hz
    rename_i z hzi
    cases hz1 : z.cells.toList.all isZ with
    | false => rw [hz1] at hz; cases hz
    | true =>
      rw [hz1] at hz; cases hz
      have hzr : ∀ w, (zeroValue t).run P w = .ok z w := by
        intro w
        obtain ⟨i, hi, hz⟩ := Option.bind_eq_some_iff.1 hzi
        simp [zeroValue, typeInfo, hi, hz]
      refine ⟨z.cells, fun r oo w hoo => by simp [execOp, hoo, Instr.alloc, hzr, newVar, newRow, newObj, Sem.run]; try rfl, fun ν σ nx b lkc hn => ⟨_, _, hn, rfl, ?_⟩⟩
      have hr := zero_row (D := D) (ν := ν) (σ := σ) hz1
      rw [resL_id hr]; exact hr

/-- The laws of the late ones. -/
structure LateOk (P : Program) (D : Shp S) (ro : Ro S) (ops : Array Oper) (i : Nat) (o : Oper) (t d : Nat) : Prop where
  z : ∃ a, zAO P D t = some a
  at_ : ops[i]? = some o
  op : o.op = .alloc t
  dst : o.dst = some d
  lock : hasN ro.lock d = false
  guard : o.guard = none
  after : o.after.toList = []
  only : ∀ j oj, ops[j]? = some oj → oj.dst = some d → j = i
theorem isLate_ok {i : Nat} (h : isLate P D ro ops i = true) : ∃ o t d, LateOk P D ro ops i o t d := by
  unfold isLate at h
  split at h
  case h_2 => cases h
  rename_i o ho
  split at h
  case h_2 => cases h
  rename_i t d hop hd
  obtain ⟨h, h4⟩ := and_b h
  obtain ⟨h, h3⟩ := and_b h
  obtain ⟨h, h2⟩ := and_b h
  obtain ⟨h0, h1⟩ := and_b h
  refine ⟨o, t, d, Option.isSome_iff_exists.1 h0, ho, hop, hd, by simpa using h1, by simpa using h2, List.isEmpty_iff.1 h3, fun j oj hj hdj => ?_⟩
  have hlt : j < ops.size := by
    rcases Nat.lt_or_ge j ops.size with h' | h'
    · exact h'
    · rw [Array.getElem?_eq_none h'] at hj; cases hj
  have := List.all_eq_true.1 h4 j (List.mem_range.2 hlt)
  rw [hj] at this
  simp only [Option.bind_some, hdj] at this
  rcases Bool.or_eq_true_iff.1 this with e | e
  · exact Nat.eq_of_beq_eq_true e
  · simp at e
def Lts (P : Program) (D : Shp S) (ro : Ro S) (ops : Array Oper) (L : List Nat) : Prop := ∀ i ∈ L, ∃ o t d, LateOk P D ro ops i o t d
theorem hasN_iff {l : List Nat} {x : Nat} : hasN l x = true ↔ x ∈ l := by
  induction l with
  | nil => simp [hasN]
  | cons a l ih =>
    unfold hasN
    cases h : Nat.beq a x with
    | true => simp [Nat.eq_of_beq_eq_true h]
    | false =>
      rw [cond_false, ih, List.mem_cons]
      refine ⟨.inr, fun h' => h'.resolve_left fun e => ?_⟩
      subst e
      simp at h
theorem deadL_spec {L : List Nat} : ∀ {st : AS S}, (deadL ops L st).objs = st.objs ∧ (deadL ops L st).next = st.next ∧ ∀ j, (deadL ops L st).slots j = st.slots j ∨ (deadL ops L st).slots j = .dead := by
  induction L with
  | nil => exact ⟨rfl, rfl, fun _ => .inl rfl⟩
  | cons i L ih =>
    intro st
    unfold deadL
    split
    · rename_i d _
      split
      · exact ih
      · obtain ⟨h1, h2, h3⟩ := ih (st := { st with slots := updS st.slots d .dead })
        refine ⟨h1, h2, fun j => ?_⟩
        rcases h3 j with e | e
        · rw [e]
          show (bif Nat.beq j d then SV.dead else st.slots j) = st.slots j ∨ (bif Nat.beq j d then SV.dead else st.slots j) = .dead
          cases Nat.beq j d with
          | true => exact .inr rfl
          | false => exact .inl rfl
        · exact .inr e
    · exact ih
theorem deadL_at {L : List Nat} : ∀ {st : AS S} {i : Nat} {o : Oper} {d : Nat}, i ∈ L → ops[i]? = some o → o.dst = some d → (deadL ops L st).slots d = .dead := by
  induction L with
  | nil => intro st i o d hi; cases hi
  | cons x L ih =>
    intro st i o d hi ho hd
    rcases List.mem_cons.1 hi with rfl | hi
    · unfold deadL
      rw [ho]
      simp only [Option.bind_some, hd]
      split
      · rename_i hdead
        rcases (deadL_spec (ops := ops) (L := L) (st := st)).2.2 d with e | e
        · rw [e]; exact hdead
        · exact e
      · rcases (deadL_spec (ops := ops) (L := L) (st := { st with slots := updS st.slots d .dead })).2.2 d with e | e
        · rw [e]; simp [updS]
        · exact e
    · unfold deadL
      split
      · split
        · exact ih hi ho hd
        · exact ih hi ho hd
      · exact ih hi ho hd
theorem G.dead {L : List Nat} (h : G D cx ν0 ro st f w ν σ ms) : G D cx ν0 ro (deadL ops L st) f w ν σ ms := by
  obtain ⟨h1, h2, h3⟩ := deadL_spec (ops := ops) (L := L) (st := st)
  refine ⟨h.mem, by rw [h1]; exact h.objs, fun j => ?_, by rw [h2]; exact h.fresh, h.ext⟩
  have := h.slots j
  unfold slotS at this ⊢
  cases hl : hasN ro.lock j with
  | true => rw [hl] at this; exact this
  | false =>
    rw [hl] at this
    simp only [cond_false] at this ⊢
    rcases h3 j with e | e
    · rw [e]; exact this
    · rw [e]; exact .dead _

/-! What is listed. -/
theorem bt_get {m k j : Nat} : (bt m k).getD j false = true ↔ j < m ∧ k.testBit j = true := by
  rcases Nat.lt_or_ge j m with h | h
  · simp [bt, h]
  · simp [bt, show ¬ j < m by omega]
theorem bt_or {m mask i j : Nat} : (bt m (mask ||| 1 <<< i)).getD j false = true ↔ (bt m mask).getD j false = true ∨ (j < m ∧ j = i) := by
  have hb : (1 <<< i).testBit j = true ↔ i = j := by rw [Nat.one_shiftLeft]; simp [Nat.testBit_two_pow]
  rw [bt_get, bt_get, Nat.testBit_or, Bool.or_eq_true, hb]
  constructor
  · rintro ⟨h, e | e⟩
    · exact .inl ⟨h, e⟩
    · exact .inr ⟨h, e.symm⟩
  · rintro (⟨h, e⟩ | ⟨h, e⟩)
    · exact ⟨h, .inl e⟩
    · exact ⟨h, .inr e.symm⟩
theorem orL_get {m : Nat} {L : List Nat} : ∀ {mask j : Nat}, (bt m (orL mask L)).getD j false = true ↔ (bt m mask).getD j false = true ∨ (j < m ∧ j ∈ L) := by
  induction L with
  | nil => intro mask j; simp [orL]
  | cons i L ih =>
    intro mask j
    rw [orL, ih, bt_or, List.mem_cons]
    constructor
    · rintro ((h | ⟨h, e⟩) | ⟨h, e⟩)
      · exact .inl h
      · exact .inr ⟨h, .inl e⟩
      · exact .inr ⟨h, .inr e⟩
    · rintro (h | ⟨h, e | e⟩)
      · exact .inl (.inl h)
      · exact .inl (.inr ⟨h, e⟩)
      · exact .inr ⟨h, e⟩
theorem un_iff {l : Array Bool} {j : Nat} : l.getD j true = false ↔ j < l.size ∧ ¬ l.getD j false = true := by
  rcases Nat.lt_or_ge j l.size with h | h
  · simp [h]
  · simp [Array.getElem?_eq_none h]; omega
/-- How many are left. -/
def unl (l : Array Bool) : Nat := (List.range l.size).countP fun j => !l.getD j false
theorem count_lt {p q : Nat → Bool} {j : Nat} : ∀ {l : List Nat}, (∀ x, p x = true → q x = true) → j ∈ l → q j = true → p j = false → l.countP p < l.countP q
  | [], _, h, _, _ => by cases h
  | a :: l, hpq, h, h1, h2 => by
    have hle : l.countP p ≤ l.countP q := List.countP_mono_left fun x _ hx => hpq x hx
    by_cases ha : a = j
    · subst ha
      rw [List.countP_cons_of_neg (by simp [h2]), List.countP_cons_of_pos h1]; omega
    · have := count_lt (l := l) hpq ((List.mem_cons.1 h).resolve_left fun e => ha e.symm) h1 h2
      by_cases hp : p a = true
      · rw [List.countP_cons_of_pos hp, List.countP_cons_of_pos (hpq a hp)]; omega
      · rw [List.countP_cons_of_neg hp]
        by_cases hq : q a = true
        · rw [List.countP_cons_of_pos hq]; omega
        · rw [List.countP_cons_of_neg hq]; exact this
theorem unl_set {l : Array Bool} {j : Nat} (h : l.getD j true = false) : unl (l.setIfInBounds j true) < unl l := by
  obtain ⟨h1, h2⟩ := un_iff.1 h
  unfold unl
  rw [Array.size_setIfInBounds]
  refine count_lt (j := j) (fun x hx => ?_) (List.mem_range.2 h1) (by simpa using h2) ?_
  · cases hq : l.getD x false with
    | false => rfl
    | true => rw [getD_set_true hq] at hx; cases hx
  · simp [h1]

/-- How what is listed stands to the plain state's own list: late ones may have come. -/
structure Lst (m mask : Nat) (L : List Nat) (pend : List Nat) (lc : Array Bool) : Prop where
  size : lc.size = m
  at_ : ∀ j, lc.getD j false = true ↔ (bt m mask).getD j false = true ∨ j ∈ pend
  sub : ∀ i ∈ pend, i ∈ L
  not : ∀ i ∈ L, i < m ∧ ¬ (bt m mask).getD i false = true
  one : L.Nodup
  pone : pend.Nodup
variable {m mask fuel : Nat} {L pend : List Nat} {lc : Array Bool}
theorem Lst.un (h : Lst m mask L pend lc) {j : Nat} : lc.getD j true = false ↔ (bt m mask).getD j true = false ∧ j ∉ pend := by
  rw [un_iff, un_iff, h.size, show (bt m mask).size = m by simp [bt], h.at_]
  constructor
  · rintro ⟨a, b⟩
    exact ⟨⟨a, fun c => b (.inl c)⟩, fun c => b (.inr c)⟩
  · rintro ⟨⟨a, b⟩, c⟩
    exact ⟨a, fun d => d.elim b c⟩
/-- What is ready in the plain state's list is ready. -/
theorem Lst.up (h : Lst m mask L pend lc) {j : Nat} (hj : j ∈ Region.ready .any ops (bt m mask)) (hn : j ∉ L) : j ∈ Region.ready .any ops lc := by
  obtain ⟨h1, o, ho, hall⟩ := mem_ready.1 hj
  exact mem_ready.2 ⟨h.un.2 ⟨h1, fun hp => hn (h.sub j hp)⟩, o, ho, fun e he hb => (h.at_ _).2 (.inl (hall e he hb))⟩
/-- What is ready is so as soon as the late ones have come. -/
theorem Lst.down (h : Lst m mask L pend lc) {j : Nat} {L' : List Nat} (hj : j ∈ Region.ready .any ops lc) (hn : j ∉ L') (hs : ∀ i ∈ pend, i ∈ L') : j ∈ Region.ready .any ops (bt m (orL mask L')) := by
  obtain ⟨h1, o, ho, hall⟩ := mem_ready.1 hj
  obtain ⟨h2, h3⟩ := h.un.1 h1
  obtain ⟨h4, h5⟩ := un_iff.1 h2
  have h4 : j < m := by simpa [bt] using h4
  refine mem_ready.2 ⟨un_iff.2 ⟨by simpa [bt] using h4, fun hx => ?_⟩, o, ho, fun e he hb => orL_get.2 ?_⟩
  · rcases orL_get.1 hx with hx | hx
    · exact h5 hx
    · exact hn hx.2
  · rcases (h.at_ _).1 (hall e he hb) with hx | hx
    · exact .inl hx
    · exact .inr ⟨(h.not _ (h.sub _ hx)).1, hs _ hx⟩
theorem Lst.same (h : Lst m mask L pend lc) (hp : pend = []) {j : Nat} (hj : j ∈ Region.ready .any ops lc) : j ∈ Region.ready .any ops (bt m mask) := by
  have := h.down (L' := []) hj (by simp) (by simp [hp])
  exact this
theorem Lst.set (h : Lst m mask L pend lc) {j : Nat} (hj : j < m) (hn : j ∉ L) : Lst m (mask ||| 1 <<< j) L pend (lc.setIfInBounds j true) := by
  refine ⟨by simp [h.size], fun x => ?_, h.sub, fun i hi => ⟨(h.not i hi).1, fun hx => ?_⟩, h.one, h.pone⟩
  · rw [bt_or]
    by_cases hx : j = x
    · subst hx
      simp [h.size, hj]
    · rw [getD_set_ne false hx, h.at_]
      constructor
      · rintro (a | a)
        · exact .inl (.inl a)
        · exact .inr a
      · rintro ((a | ⟨_, a⟩) | a)
        · exact .inl a
        · exact absurd a.symm hx
        · exact .inr a
  · rcases bt_or.1 hx with a | ⟨_, a⟩
    · exact (h.not i hi).2 a
    · exact hn (a ▸ hi)
theorem Lst.early (h : Lst m mask L pend lc) {j : Nat} (hj : j ∈ L) (hn : j ∉ pend) : Lst m mask L (j :: pend) (lc.setIfInBounds j true) := by
  have hm := (h.not j hj).1
  refine ⟨by simp [h.size], fun x => ?_, fun i hi => ?_, h.not, h.one, List.nodup_cons.2 ⟨hn, h.pone⟩⟩
  · by_cases hx : j = x
    · subst hx
      simp [h.size, hm]
    · rw [getD_set_ne false hx, h.at_, List.mem_cons]
      constructor
      · rintro (a | a)
        · exact .inl a
        · exact .inr (.inr a)
      · rintro (a | a | a)
        · exact .inl a
        · exact absurd a.symm hx
        · exact .inr a
  · rcases List.mem_cons.1 hi with rfl | hi
    · exact hj
    · exact h.sub i hi
theorem Lst.name {i : Nat} (h : Lst m mask (i :: L) pend lc) {pend' : List Nat} (hp : pend.Perm (i :: pend')) : Lst m (mask ||| 1 <<< i) L pend' lc := by
  have hn := List.nodup_cons.1 h.one
  have hpn := List.nodup_cons.1 (hp.nodup_iff.1 h.pone)
  refine ⟨h.size, fun x => ?_, fun x hx => ?_, fun x hx => ⟨(h.not x (by simp [hx])).1, fun hb => ?_⟩, hn.2, hpn.2⟩
  · rw [h.at_, bt_or, hp.mem_iff, List.mem_cons]
    have hm := (h.not i (by simp)).1
    constructor
    · rintro (a | rfl | a)
      · exact .inl (.inl a)
      · exact .inl (.inr ⟨hm, rfl⟩)
      · exact .inr a
    · rintro ((a | ⟨_, a⟩) | a)
      · exact .inl a
      · exact .inr (.inl a)
      · exact .inr (.inr a)
  · have := h.sub x (hp.mem_iff.2 (by simp [hx]))
    exact (List.mem_cons.1 this).resolve_left fun e => hpn.1 (e ▸ hx)
  · rcases bt_or.1 hb with a | ⟨_, a⟩
    · exact (h.not x (by simp [hx])).2 a
    · exact hn.1 (a ▸ hx)

theorem beq_no {a b : Nat} (h : a ≠ b) : Nat.beq a b = false := by
  cases hq : Nat.beq a b with
  | false => rfl
  | true => exact absurd (Nat.eq_of_beq_eq_true hq) h
/-- A late variable that has come: it has no name yet. -/
def Pnd (P : Program) (D : Shp S) (ro : Ro S) (ops : Array Oper) (f : Fr) (q : Nat × HObj) : Prop :=
  ∃ o t d b a, LateOk P D ro ops q.1 o t d ∧ f d = .pointer (some ⟨b, 0, none⟩) ∧ zAO P D t = some a ∧
    ∀ (ν : Nm) (σ : Hv) (nx : Nat) (lkc : Nat → Nat → SV S), ν nx = some (.pointer (some ⟨b, 0, none⟩)) → ORep D ν σ lkc nx a q.2
theorem Pnd.put {q : Nat × HObj} (h : Pnd P D ro ops f q) {j : Nat} {o : Oper} {v : Value} (ho : ops[j]? = some o) (hj : j ≠ q.1) : Pnd P D ro ops (putF f o.dst v) q := by
  obtain ⟨o', t, d, b, a, hl, hf, h⟩ := h
  refine ⟨o', t, d, b, a, hl, ?_, h⟩
  unfold putF
  cases hd : o.dst with
  | none => exact hf
  | some d' =>
    have hne : d ≠ d' := fun e => hj (hl.only j o ho (by rw [hd, e]))
    show (bif Nat.beq d d' then v else f d) = _
    rw [beq_no hne]
    exact hf
/-- A plain state, and late variables that have come. -/
structure Gp (P : Program) (D : Shp S) (cx : Cx) (ν0 : Nm) (ro : Ro S) (ops : Array Oper) (st : AS S) (f : Fr) (w : World) (ν : Nm) (σ : Hv) (ms : List HObj) (pl : List (Nat × HObj)) : Prop where
  g : G D ⟨w, σ, feet ms⟩ ν0 ro st f w ν σ ms
  mem : St cx w σ (ms ++ pl.map (·.2))
  pnd : ∀ q ∈ pl, Pnd P D ro ops f q
theorem wpK_end {fuel : Nat} {a : Act} {prot : Prot} (h : Region.ready .any ops lc = []) (hq : Q .normal a w) : wpK P ops Q fuel lc prot a w := by
  cases fuel with
  | zero => exact ⟨h, hq⟩
  | succ n => exact ⟨fun _ => hq, fun j hj => by rw [h] at hj; cases hj⟩
theorem putF_same {o : Oper} {d : Nat} (hd : o.dst = some d) : putF f o.dst (f d) = f := by
  rw [hd]
  funext j
  show (bif Nat.beq j d then f d else f j) = f j
  cases h : Nat.beq j d with
  | true => rw [Nat.eq_of_beq_eq_true h]; rfl
  | false => rfl

theorem draw_go {E : Ev S} {inlh : InlH S} {C : Ro S → Prop} (hP : E.D.OkP E.P) (hst : StH E inlh n C) (hro : C ro) (hsel : Region.noSelect ops = true) (hQ : ∀ c a w, ¬ Q (.panic c) a w) {m : Nat} {k : AS S → Prop} :
    ∀ {N fuel fuelc mask : Nat} {L : List Nat} {pa : List (Nat × List Nat)} {prot : Prot} {st : AS S} {f : Fr} {w : World} {ν : Nm} {σ : Hv} {ms : List HObj} {pl : List (Nat × HObj)} {lc : Array Bool}, fuel + fuelc ≤ N → unl lc ≤ fuelc → Closed ops lc →
    Lst m mask L (pl.map (·.1)) lc → Lts E.P E.D ro ops L → (∀ i ∈ L, ∀ o d, ops[i]? = some o → o.dst = some d → st.slots d = .dead) → drawS E inlh n ro ops m k fuel L mask pa st → Gp E.P E.D cx ν0 ro ops st f w ν σ ms pl → PRs ν σ w pa prot →
    (∀ st' f' w' ν' σ' ms', k st' → G E.D cx ν0 ro st' f' w' ν' σ' ms' → Q .normal (mk n f') w') → wpK E.P ops Q fuelc lc prot (mk n f) w := by
  intro N
  induction N with
  | zero =>
    intro fuel fuelc mask L pa prot st f w ν σ ms pl lc hN hun hcl hls hL hdead h hG hpr hk
    have hz : fuel = 0 := by omega
    subst hz
    simp only [drawS] at h
    obtain ⟨h1, h2⟩ := bif_f h
    obtain ⟨h1, h3⟩ := and_b h1
    have hLe := List.isEmpty_iff.1 h1
    have hple : pl = [] := by
      cases pl with
      | nil => rfl
      | cons q pl => have := hls.sub q.1 (by simp); rw [hLe] at this; cases this
    subst hple
    refine wpK_end (List.eq_nil_iff_forall_not_mem.2 fun j hj => ?_) (hk _ _ _ _ _ _ h2 ⟨by simpa using hG.mem, hG.g.objs, hG.g.slots, hG.g.fresh, hG.g.ext⟩)
    have := hls.same rfl hj
    rw [List.isEmpty_iff.1 h3] at this
    cases this
  | succ N ih =>
    intro fuel fuelc mask L pa prot st f w ν σ ms pl lc hN hun hcl hls hL hdead h hG hpr hk
    have hGcx : pl = [] → G E.D cx ν0 ro st f w ν σ ms := fun e => by
      subst e
      exact ⟨by simpa using hG.mem, hG.g.objs, hG.g.slots, hG.g.fresh, hG.g.ext⟩
    have hplL : L = [] → pl = [] := fun e => by
      cases pl with
      | nil => rfl
      | cons q pl => have := hls.sub q.1 (by simp); rw [e] at this; cases this
    -- a late one comes early
    have early : ∀ {c : Nat}, fuelc = c + 1 → ∀ j ∈ Region.ready .any ops lc, j ∈ L →
        wpOp E.P ops Q j (fun a' w' => (∀ q ∈ prot, depD ops j q.1 = false → Eqv q.2 w w') ∧ wpK E.P ops Q c (lc.setIfInBounds j true) (prot.filter fun q => !depD ops j q.1) a' w') (mk n f) w := by
      intro c hc j hj hjL
      obtain ⟨hjun, _⟩ := mem_ready.1 hj
      have hjp : j ∉ pl.map (·.1) := (hls.un.1 hjun).2
      obtain ⟨o, t, d, hlt⟩ := hL j hjL
      have hs := hdead j hjL o d hlt.at_ hlt.dst
      obtain ⟨a, hz⟩ := hlt.z
      obtain ⟨cs, hrun, hrep⟩ := alloc_run hP hz
      unfold wpOp
      simp only [hlt.at_]
      have hw : Region.wanted o (yielded ops (mk n f).tmps) = true := by simp [Region.wanted, hlt.guard]
      rw [if_pos hw]
      left
      unfold Oper.wp
      rw [eval_mk, hrun _ o w hlt.op]
      have hput : (mk n f).put o.dst (.pointer (some ⟨w.heap.size, 0, none⟩)) = mk n (putF f o.dst (.pointer (some ⟨w.heap.size, 0, none⟩))) := mk_put _ _
      show (∀ q ∈ prot, depD ops j q.1 = false → Eqv q.2 w (w.alloc (.cells cs t))) ∧ wpK E.P ops Q c (lc.setIfInBounds j true) (prot.filter fun q => !depD ops j q.1) ((mk n f).put o.dst _) (w.alloc (.cells cs t))
      have hkp : Keeps [] w (w.alloc (.cells cs t)) := alloc_keeps w _
      refine ⟨fun q hq _ b hb => ?_, ?_⟩
      · obtain ⟨a', _, _, h2⟩ := hpr q hq
        exact hkp.block b (h2 b hb).1 (by simp)
      · rw [hput]
        have hmem : St cx (w.alloc (.cells cs t)) σ (ms ++ ((j, blk w.heap.size t cs.toList) :: pl).map (·.2)) :=
          (new_block hG.mem t cs).perm (by simpa using List.perm_middle.symm)
        refine ih (fuel := fuel) (fuelc := c) (by omega) (by have := unl_set hjun; omega) (hcl.set hj) (pl := (j, blk w.heap.size t cs.toList) :: pl) (hls.early hjL hjp) hL hdead h
          ⟨⟨hmem.inner, hG.g.objs, fun x => ?_, hG.g.fresh, hG.g.ext⟩, hmem, fun q hq => ?_⟩ ((hpr.mono (Ext.refl _) (Sub.refl _) hkp.size).sub fun q hq => (List.mem_filter.1 hq).1) hk
        · have hx := hG.g.slots x
          rw [hlt.dst]
          show SRep E.D ν σ (bif Nat.beq x d then _ else f x) _
          cases hxd : Nat.beq x d with
          | true =>
            rw [Nat.eq_of_beq_eq_true hxd]
            unfold slotS
            rw [hlt.lock, cond_false, hs]
            exact .dead _
          | false => exact hx
        · rcases List.mem_cons.1 hq with rfl | hq
          · refine ⟨o, t, d, w.heap.size, a, hlt, ?_, hz, fun ν σ nx lkc hn => hrep ν σ nx _ lkc hn⟩
            rw [hlt.dst]
            show (bif Nat.beq d d then _ else f d) = _
            simp
          · exact (hG.pnd q hq).put hlt.at_ fun e => hjp (e ▸ List.mem_map.2 ⟨q, hq, rfl⟩)
    have stop : Region.ready .any ops lc = [] → ∀ i ∈ L, i ∈ pl.map (·.1) := fun hr i hi => by
      refine Classical.byContradiction fun hn => ?_
      obtain ⟨o, t, d, hlt⟩ := hL i hi
      have : i ∈ Region.ready .any ops lc := mem_ready.2 ⟨hls.un.2 ⟨un_iff.2 ⟨by simpa [bt] using (hls.not i hi).1, (hls.not i hi).2⟩, hn⟩, o, hlt.at_, fun e he _ => by
        have := Array.mem_toList_iff.2 he
        rw [hlt.after] at this; cases this⟩
      rw [hr] at this; cases this
    have pos : ∀ j ∈ Region.ready .any ops lc, ∃ c, fuelc = c + 1 := fun j hj => by
      have := unl_set (mem_ready.1 hj).1
      exact ⟨fuelc - 1, by omega⟩
    cases fuel with
    | zero =>
      simp only [drawS] at h
      obtain ⟨h1, h2⟩ := bif_f h
      obtain ⟨h1, h3⟩ := and_b h1
      have hple := hplL (List.isEmpty_iff.1 h1)
      refine wpK_end (List.eq_nil_iff_forall_not_mem.2 fun j hj => ?_) (hk _ _ _ _ _ _ h2 (hGcx hple))
      have := hls.same (by rw [hple]; rfl) hj
      rw [List.isEmpty_iff.1 h3] at this
      cases this
    | succ fuel =>
      simp only [drawS] at h
      split at h
      · rename_i hne
        have hnone : ∀ j, j ∈ Region.ready .any ops (bt m mask) → j ∈ L := fun j hj => by
          refine Classical.byContradiction fun hn => ?_
          have : j ∈ notL L (Region.ready .any ops (bt m mask)) := List.mem_filter.2 ⟨hj, by
            cases hh : hasN L j with
            | false => rfl
            | true => exact absurd (hasN_iff.1 hh) hn⟩
          rw [hne] at this; cases this
        split at h
        · -- all is done
          have hple := hplL rfl
          refine wpK_end (List.eq_nil_iff_forall_not_mem.2 fun j hj => ?_) (hk _ _ _ _ _ _ h (hGcx hple))
          have := hnone j (hls.same (by rw [hple]; rfl) hj)
          cases this
        · -- a late one gets its name
          rename_i i L'
          obtain ⟨hall, h⟩ := bif_f h
          by_cases hi : i ∈ pl.map (·.1)
          · obtain ⟨q, hq, rfl⟩ := List.mem_map.1 hi
            obtain ⟨pl1, pl2, rfl⟩ := List.append_of_mem hq
            obtain ⟨o, t, d, b, a, hlt, hf, hz, hrep⟩ := hG.pnd q hq
            rw [hlt.at_] at h
            simp only at h
            unfold stepS at h
            rw [hlt.op] at h
            simp only [isEff, cond_true] at h
            obtain ⟨a', hz', h⟩ := alloc_inv h
            rw [hz] at hz'; cases hz'
            simp only [inRw, noBan, Bool.and_self, cond_true, forceO_eq, delNs] at h
            have hfr := hG.g.fresh st.next (Nat.le_refl _)
            let ν2 := ν.add st.next (.pointer (some ⟨b, 0, none⟩))
            have hx : Ext ν ν2 := Nm.add_ext hfr
            have hmem : St cx w σ ((q.2 :: ms) ++ (pl1 ++ pl2).map (·.2)) := hG.mem.perm (by
              simp only [List.map_append, List.map_cons, List.cons_append]
              rw [← List.append_assoc]
              exact List.perm_middle.trans (by rw [List.append_assoc]))
            have hG2 : G E.D ⟨w, σ, feet (q.2 :: ms)⟩ ν0 ro { slots := st.slots, objs := (st.next, a) :: st.objs, next := st.next + 1 } f w ν2 σ (q.2 :: ms) :=
              ⟨hmem.inner, ⟨hrep _ _ _ _ Nm.add_self, hG.g.objs.mono hx (Sub.refl _)⟩, fun j => (hG.g.slots j).mono hx (Sub.refl _), fun x hx2 => by
                show Nm.add ν st.next _ x = none
                unfold Nm.add
                rw [if_neg (by intro e; simp only at hx2; omega)]
                exact hG.g.fresh x (by simp only at hx2; omega), hG.g.ext.trans hx⟩
            have hs : SRep E.D ν2 σ (f d) (.ref st.next 0) := by rw [hf]; exact .ref _ _ _ Nm.add_self
            obtain ⟨st', hk', ho', hn', hG'⟩ := hG2.put (d := o.dst) hs h
            rw [putF_same hlt.dst] at hG'
            rw [deadK_eq] at hk'
            have hsub : ∀ x ∈ L', x ∈ q.1 :: L' := fun x hx => by simp [hx]
            refine ih (fuel := fuel) (fuelc := fuelc) (by omega) hun hcl (pl := pl1 ++ pl2) (hls.name (by simp only [List.map_append, List.map_cons]; exact List.perm_middle)) (fun x hx => hL x (hsub x hx)) (fun x hx o d ho hd => deadL_at hx ho hd) hk'
              ⟨hG'.dead, hmem, fun p hp => hG.pnd p (by rcases List.mem_append.1 hp with e | e <;> simp [e])⟩ (hpr.mono hx (Sub.refl _) (Nat.le_refl _)) hk
          · -- it has not come yet
            have hir : i ∈ Region.ready .any ops lc := Classical.byContradiction fun hn => by
              obtain ⟨o, t, d, hlt⟩ := hL i (by simp)
              exact hn (mem_ready.2 ⟨hls.un.2 ⟨un_iff.2 ⟨by simpa [bt] using (hls.not i (by simp)).1, (hls.not i (by simp)).2⟩, hi⟩, o, hlt.at_, fun e he _ => by
                have := Array.mem_toList_iff.2 he
                rw [hlt.after] at this; cases this⟩)
            obtain ⟨c, hc⟩ := pos i hir
            subst hc
            refine ⟨fun hr => (by rw [hr] at hir; cases hir), fun j hj => early rfl j hj ?_⟩
            refine Classical.byContradiction fun hn => hn ?_
            have hd := hls.down (L' := L') hj (fun hx => hn (by simp [hx])) fun x hx => (List.mem_cons.1 (hls.sub x hx)).resolve_left fun e => hi (e ▸ hx)
            have := Nat.eq_of_beq_eq_true (List.all_eq_true.1 hall j hd)
            simp [this]
      · rename_i hne
        have hin : ∀ j ∈ notL L (Region.ready .any ops (bt m mask)), j ∈ Region.ready .any ops (bt m mask) ∧ j ∉ L := fun j hj => by
          obtain ⟨h1, h2⟩ := List.mem_filter.1 hj
          exact ⟨h1, fun hx => by rw [hasN_iff.2 hx] at h2; cases h2⟩
        have hmlt : ∀ j ∈ Region.ready .any ops lc, j < m := fun j hj => by
          have := (un_iff.1 (mem_ready.1 hj).1).1
          rwa [hls.size] at this
        have keepF : ∀ {i : Nat} {o : Oper} {v : Value}, ops[i]? = some o → i ∉ L → ∀ q ∈ pl, Pnd E.P E.D ro ops (putF f o.dst v) q := fun ho hi q hq =>
          (hG.pnd q hq).put ho fun e => hi (hls.sub _ (e ▸ List.mem_map.2 ⟨q, hq, rfl⟩))
        split at h
        · -- one that can be taken first
          rename_i i hfirst
          obtain ⟨hi, o, ho, _, hdst, hfree⟩ := firstQ_ok hfirst
          obtain ⟨hi, hiL⟩ := hin i hi
          have hir := hls.up hi hiL
          obtain ⟨c, hc⟩ := pos i hir
          subst hc
          have hfree' : ∀ j oj, ops[j]? = some oj → j ≠ i → lc.getD j true = false → (∀ e ∈ oj.after, Region.binds .any e = true → e.on ≠ i) → o.apart ops oj = true :=
            fun j oj hj hne hu hno => Region.free_spec ho hfree j oj hj hne (hls.un.1 hu).1 hno
          rw [ho] at h
          simp only at h
          rcases guard_ok hG.g h with ⟨hw, st1, hy, _, hG1⟩ | ⟨hw, st1, hno, _, hG1⟩
          · -- it is carried out
            cases hc : (isEff (obS ro st1) (evS n ro st1) o.op || isCall o.op) with
            | true => rw [hc] at hy; exact hy.elim
            | false =>
              rw [hc] at hy
              simp only [cond_false] at hy
              obtain ⟨oh, kn, hms⟩ := hG1.kn (n := n)
              obtain ⟨rd, s, v, hK, hs, hrun⟩ := pure_ok hP kn hy
              obtain ⟨st', hk', _, _, hG'⟩ := hG1.put hs hK
              rw [deadK_eq] at hk'
              let R : Nat → Prop := fun b => σ b ≠ none ∨ ∃ o ∈ rd, ∃ a, obS ro st1 o = some a ∧ (oh o).foot = some b
              have hRlt : ∀ b, R b → b < w.heap.size := fun b hb => by
                rcases hb with hb | ⟨o', _, a, ha, hb⟩
                · cases hq : σ b with
                  | none => exact absurd hq hb
                  | some x => exact lt_of_block (hG1.mem.view b x hq)
                · exact (oh o').lt w b (hG1.mem.own _ (hms o' a ha)) hb
              refine wpK_first (R := R) (w0 := w) ho (Region.noSelect_spec hsel) hQ c _ prot _ w hcl (fun b _ => rfl) hfree' hir (v := v) ?_ ?_
              · intro w' hE K' hK'
                unfold wpOp
                simp only [ho, if_pos hw]
                left
                have hV : View σ w' := fun b ob hb => by
                  rw [hE b (.inl (by rw [hb]; simp))]
                  exact hG1.mem.view b ob hb
                have hr := hrun w' o rfl hV (fun o' ho' a ha => (oh o').stay w w' (fun b hb => hE b (.inr ⟨o', ho', a, ha, hb⟩)) (hG1.mem.own _ (hms o' a ha)))
                unfold Oper.wp
                rw [eval_mk, hr]
                exact hK'
              · rw [mk_put]
                refine ih (fuel := fuel) (fuelc := c) (by omega) (by have := unl_set (mem_ready.1 hir).1; omega) (hcl.set hir) (hls.set (hmlt i hir) hiL) hL (fun x hx o d ho hd => deadL_at hx ho hd) hk' ⟨hG'.dead, hG.mem, keepF ho hiL⟩ ?_ hk
                intro q hq
                rcases List.mem_cons.1 hq with rfl | hq
                · refine ⟨(i, rd), by simp, rfl, fun b hb => ⟨hRlt b hb, hb.imp id fun ⟨o', ho', a, ha, hf⟩ => ?_⟩⟩
                  obtain ⟨v', hv', hvf⟩ := (kn.o o' a ha).1.foot (kn.o o' a ha).2 hf
                  exact ⟨o', ho', v', hv', hvf⟩
                · obtain ⟨a, ha, hp⟩ := hpr q hq
                  exact ⟨a, by simp [ha], hp⟩
          · -- it is passed over
            obtain ⟨st', hk', _, _, hG'⟩ := hG1.put (v := undef) .und hno
            rw [deadK_eq] at hk'
            refine wpK_first (R := fun _ => False) (w0 := w) ho (Region.noSelect_spec hsel) hQ c _ prot _ w hcl (fun b _ => rfl) hfree' hir (v := undef) ?_ ?_
            · intro w' hE K' hK'
              unfold wpOp
              simp only [ho, hw, Bool.false_eq_true, if_false]
              exact hK'
            · rw [mk_put]
              refine ih (fuel := fuel) (fuelc := c) (by omega) (by have := unl_set (mem_ready.1 hir).1; omega) (hcl.set hir) (hls.set (hmlt i hir) hiL) hL (fun x hx o d ho hd => deadL_at hx ho hd) hk' ⟨hG'.dead, hG.mem, keepF ho hiL⟩ ?_ hk
              intro q hq
              rcases List.mem_cons.1 hq with rfl | hq
              · exact ⟨(i, []), by simp, rfl, fun b hb => hb.elim⟩
              · obtain ⟨a, ha, hp⟩ := hpr q hq
                exact ⟨a, by simp [ha], hp⟩
        · -- any of those that are ready
          obtain ⟨hall, h⟩ := bif_f h
          cases hrs : notL L (Region.ready .any ops (bt m mask)) with
          | nil => exact absurd hrs hne
          | cons i0 rs0 =>
            have hi0 := hin i0 (by rw [hrs]; simp)
            obtain ⟨c, hc⟩ := pos i0 (hls.up hi0.1 hi0.2)
            subst hc
            refine ⟨fun hr => (by have := hls.up hi0.1 hi0.2; rw [hr] at this; cases this), fun j hj => ?_⟩
            by_cases hjL : j ∈ L
            · exact early rfl j hj hjL
            have hjr : j ∈ notL L (Region.ready .any ops (bt m mask)) := by
              rcases Bool.or_eq_true_iff.1 hall with e | e
              · have hL0 := List.isEmpty_iff.1 e
                have := hls.same (by rw [hplL hL0]; rfl) hj
                exact List.mem_filter.2 ⟨this, by
                  cases hh : hasN L j with
                  | false => rfl
                  | true => exact absurd (hasN_iff.1 hh) hjL⟩
              · exact hasN_iff.1 (List.all_eq_true.1 e j (hls.down hj hjL hls.sub))
            have h1 := allR_all h j hjr
            cases ho : ops[j]? with
            | none => rw [ho] at h1; exact h1.elim
            | some o =>
              rw [ho] at h1
              simp only at h1
              unfold wpOp
              simp only [ho]
              rcases guard_ok hG.g h1 with ⟨hw, st1, hy, hobj, hG1⟩ | ⟨hw, st1, hno, _, hG1⟩
              · rw [if_pos hw]
                left
                refine hst hro hy hG1 _ _ fun rd st' f' w' ν' σ' ms' hk' hG' hext hsub hf' hleft => ⟨fun q hq hd => ?_, ?_⟩
                · obtain ⟨a, ha, hpa⟩ := hpr q hq
                  intro b hb
                  rcases (hpa.2 b hb).2 with hσ | ⟨o', ho', v, hv, hvf⟩
                  · cases hq : σ b with
                    | none => exact absurd hq hσ
                    | some x => rw [hG'.mem.view b x (hsub b x hq), hG.mem.view b x hq]
                  · rcases hleft with rfl | ⟨tl, hban, hl⟩
                    · rfl
                    · have hba := List.all_eq_true.1 hban a ha
                      rw [← hpa.1, hd, Bool.false_or] at hba
                      have hbo := List.all_eq_true.1 hba o' ho'
                      obtain ⟨h5, h6⟩ := and_b hbo
                      have hno : o' ∉ tl := hasN_mem (by simpa using h5)
                      cases hob : obS ro st1 o' with
                      | none => rw [hob] at h6; cases h6
                      | some ao =>
                        rw [hob] at h6
                        refine hl b o' ao v hno (obS_find ▸ hob) ?_ hv hvf
                        cases ao <;> first | rfl | cases h6
                · obtain ⟨v, rfl⟩ := hf'
                  simp only [deadK_eq] at hk'
                  have hmem := hG.mem.callM hG'.mem rfl
                  refine ih (fuel := fuel) (fuelc := c) (by omega) (by have := unl_set (mem_ready.1 hj).1; omega) (hcl.set hj) (hls.set (hmlt j hj) hjL) hL (fun x hx o d ho hd => deadL_at hx ho hd) hk'
                    ⟨G.dead ⟨hmem.inner, hG'.objs, hG'.slots, hG'.fresh, hG'.ext⟩, hmem, keepF ho hjL⟩ ((hpr.mono hext hsub hG'.mem.keeps.size).filter) hk
              · simp only [hw, Bool.false_eq_true, if_false]
                rw [mk_put]
                obtain ⟨st', hk', _, _, hG'⟩ := hG1.put (v := undef) .und hno
                rw [deadK_eq] at hk'
                refine ⟨fun q _ _ b _ => rfl, ?_⟩
                exact ih (fuel := fuel) (fuelc := c) (by omega) (by have := unl_set (mem_ready.1 hj).1; omega) (hcl.set hj) (hls.set (hmlt j hj) hjL) hL (fun x hx o d ho hd => deadL_at hx ho hd) hk' ⟨hG'.dead, hG.mem, keepF ho hjL⟩ hpr.filter hk
theorem draw_ok {E : Ev S} {inlh : InlH S} {C : Ro S → Prop} (hP : E.D.OkP E.P) (hst : StH E inlh n C) (hro : C ro) (hsel : Region.noSelect ops = true) (hQ : ∀ c a w, ¬ Q (.panic c) a w) {k : AS S → Prop}
    (h : drawT E inlh n ro ops k st) (hG : G E.D cx ν0 ro st f w ν σ ms) (hk : ∀ st' f' w' ν' σ' ms', k st' → G E.D cx ν0 ro st' f' w' ν' σ' ms' → Q .normal (mk n f') w') : wpK E.P ops Q ops.size (bt ops.size 0) [] (mk n f) w := by
  unfold drawT at h
  rw [forceL_eq, deadK_eq] at h
  have hz : ∀ j, ¬ (bt ops.size 0).getD j false = true := fun j hj => by
    have := (bt_get.1 hj).2
    simp at this
  have hL : Lts E.P E.D ro ops (latesQ E.P E.D ro ops) := fun i hi => isLate_ok (List.mem_filter.1 hi).2
  have hun : unl (bt ops.size 0) ≤ ops.size := by
    unfold unl
    refine Nat.le_trans (List.countP_le_length) ?_
    simp [bt]
  refine draw_go hP hst hro hsel hQ (ν := ν) (N := ops.size + ops.size) (pl := []) (Nat.le_refl _) hun closed_zero ⟨by simp [bt], fun j => by simp [hz j], by simp, fun i hi => ⟨List.mem_range.1 (List.mem_filter.1 hi).1, hz i⟩, List.nodup_range.sublist List.filter_sublist, by simp⟩ hL
    (fun i hi o d ho hd => deadL_at hi ho hd) h ⟨?_, by simpa using hG.mem, by simp⟩ (fun q hq => by cases hq) hk
  have hd : G E.D cx ν0 ro (deadL ops (latesQ E.P E.D ro ops) st) f w ν σ ms := hG.dead
  refine ⟨?_, hd.objs, hd.slots, hd.fresh, hd.ext⟩
  have : St cx w σ (ms ++ []) := by simpa using hG.mem
  exact this.inner
#print axioms draw_ok
end Go.Fx
