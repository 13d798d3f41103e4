/- The parts of a state that ways and rounds change: taken out, and put back. Conditions: those in the statements. -/
import Derived.Test.YtkfcnibjlmiboaaFxDraw
namespace Go.Fx
open Go Go.RowKit Go.Fl Go.Fl.Lk
variable {S : Sig} {P : Program} {D : Shp S} {ν ν' ν0 : Nm} {σ τ : Hv} {n : Nat} {f : Fr}
variable {w : World} {cx : Cx} {ro : Ro S} {st : AS S} {ms : List HObj}

/-- A part: its value, and the object that it is. -/
def PartRep (D : Shp S) (σ : Hv) : (kd : Kd S) → kd.ty → Value → List HObj → Prop
  | .int k, x, u, hs => u = .int k x ∧ hs = []
  | .bool, x, u, hs => u = .bool x ∧ hs = []
  | .str, x, u, hs => u = .string x ∧ hs = []
  | .sl T, x, u, hs => RepF D σ u (.sl T x) ∧ hs = []
  | .own e T, x, u, hs => ∃ xs, hs = [vec u e (D.size T) (List.length x) xs] ∧ Els D σ T xs x ∧ List.length x ≤ 140737488355328 ∧ u.oneCell' = true
  | .el T, x, u, hs => ∃ cs, u = .agg cs.toArray ∧ RowF D σ cs (D.shape T x) ∧ hs = []
  | .map K V, F, u, hs => ∃ b m, u = .map (some b) ∧ hs = [smapK (kenc D K) b m] ∧ ∀ k, ORel (ElV D σ V) (m k) (F k)
  | .arr ty T N, x, u, hs => ∃ b cs, u = .pointer (some ⟨b, 0, none⟩) ∧ hs = [blk b ty cs] ∧ Els D σ T cs x ∧ List.length x = N
  | .iter K V, x, u, hs => ∃ r b es clock cv, u = .pointer (some ⟨r, 0, none⟩) ∧ hs = [itrK (kenc D K) r b es clock x.2 cv] ∧ σ b = some (.map es clock) ∧ KeysOf (kenc D K) es.toList ∧ MBk es.toList clock ∧
      (∀ k, ORel (ElV D σ V) (lkK (kenc D K) es.toList k) (x.1 k)) ∧ (∀ k, (D.shape K k).all keyF = true) ∧ ∀ a b, kenc D K a = kenc D K b → a = b
theorem PartRep.mono {kd : Kd S} {x : kd.ty} {u : Value} {hs : List HObj} (h : PartRep D σ kd x u hs) (hsub : Sub σ τ) : PartRep D τ kd x u hs := by
  cases kd with
  | int k => exact h
  | bool => exact h
  | str => exact h
  | sl T => exact ⟨h.1.mono hsub, h.2⟩
  | own e T => obtain ⟨xs, h1, h2, h3⟩ := h; exact ⟨xs, h1, h2.mono hsub, h3⟩
  | el T => obtain ⟨cs, h1, h2, h3⟩ := h; exact ⟨cs, h1, h2.mono hsub, h3⟩
  | map K V => obtain ⟨b, m, h1, h2, h3⟩ := h; exact ⟨b, m, h1, h2, fun k => (h3 k).imp fun v y h => h.mono hsub⟩
  | arr ty T N => obtain ⟨b, cs, h1, h2, h3, h4⟩ := h; exact ⟨b, cs, h1, h2, h3.mono hsub, h4⟩
  | iter K V => obtain ⟨r, b, es, clock, cv, h1, h2, h3, h4, h5, h6, h7⟩ := h; exact ⟨r, b, es, clock, cv, h1, h2, hsub _ _ h3, h4, h5, fun k => (h6 k).imp fun v y h => h.mono hsub, h7⟩
/-- A cell of an object. -/
def cellV (ν : Nm) (w : World) (o i : Nat) : Option Value :=
  match ν o with
  | some (.pointer (some a)) => w.cell? ⟨a.block, i, none⟩
  | _ => none
def Parts (D : Shp S) (ν : Nm) (σ : Hv) (f : Fr) (w : World) : (l : List (Item S)) → HL l → List HObj → Prop
  | [], _, hs => hs = []
  | (.slot j, kd) :: l, (x, xs), hs => ∃ h1 h2, hs = h1 ++ h2 ∧ PartRep D σ kd x (f j) h1 ∧ Parts D ν σ f w l xs h2
  | (.cell o i, kd) :: l, (x, xs), hs => ∃ h1 h2 u, hs = h1 ++ h2 ∧ cellV ν w o i = some u ∧ PartRep D σ kd x u h1 ∧ Parts D ν σ f w l xs h2
  | (.obj o, kd) :: l, (x, xs), hs => ∃ h1 h2 u, hs = h1 ++ h2 ∧ ν o = some u ∧ PartRep D σ kd x u h1 ∧ Parts D ν σ f w l xs h2
theorem Parts.mono : ∀ {l : List (Item S)} {xs : HL l} {hs : List HObj}, Parts D ν σ f w l xs hs → Sub σ τ → Parts D ν τ f w l xs hs
  | [], _, _, h, _ => h
  | (.slot j, kd) :: l, (x, xs), hs, h, hsub => by obtain ⟨h1, h2, e, h3, h4⟩ := h; exact ⟨h1, h2, e, h3.mono hsub, h4.mono hsub⟩
  | (.cell o i, kd) :: l, (x, xs), hs, h, hsub => by obtain ⟨h1, h2, u, e, h3, h4, h5⟩ := h; exact ⟨h1, h2, u, e, h3, h4.mono hsub, h5.mono hsub⟩
  | (.obj o, kd) :: l, (x, xs), hs, h, hsub => by obtain ⟨h1, h2, u, e, h3, h4, h5⟩ := h; exact ⟨h1, h2, u, e, h3, h4.mono hsub, h5.mono hsub⟩

/-- A state of which some objects have been taken. -/
structure GT (D : Shp S) (cx : Cx) (ro : Ro S) (st : AS S) (f : Fr) (w : World) (ν : Nm) (σ : Hv) (tk ms : List HObj) : Prop where
  mem : St cx w σ (tk ++ ms)
  objs : Objs D ν σ ro.cell (st.objs ++ ro.objs) ms
  slots : ∀ j, SRep D ν σ (f j) (slotS ro st j)

theorem GT.or {tk : List HObj} (h : GT D cx ro st f w ν σ tk ms) : ∃ oh : Nat → HObj, ∀ o a, obS ro st o = some a → ORep D ν σ ro.cell o a (oh o) := by
  have hc : ∀ o, ∃ m : HObj, ∀ a, obS ro st o = some a → ORep D ν σ ro.cell o a m := by
    intro o
    cases ho : obS ro st o with
    | none => exact ⟨triv, fun a h => by cases h⟩
    | some a =>
      obtain ⟨m, hm, hr⟩ := h.objs.find (obS_find ▸ ho)
      exact ⟨m, fun a' h' => by cases h'; exact hr⟩
  exact ⟨fun o => Classical.choose (hc o), fun o a ho => Classical.choose_spec (hc o) a ho⟩
/-- One object is taken out of the state. -/
theorem GT.take {tk : List HObj} {o : Nat} {a : AO S} (h : GT D cx ro st f w ν σ tk ms) (hf : findN st.objs o = some a) :
    ∃ m ms', ORep D ν σ ro.cell o a m ∧ m.ok w ∧ GT D cx ro { st with objs := delN st.objs o } f w ν σ (tk ++ [m]) ms' := by
  obtain ⟨m, ms', hp, hr, ho⟩ := h.objs.take (o := o) (a := a) (by rw [findN_append, hf])
  rw [delN_append hf] at ho
  have hS := h.mem.perm (List.Perm.append_left tk hp)
  refine ⟨m, ms', hr, hS.own m (by simp), ⟨?_, ho, h.slots⟩⟩
  rw [List.append_assoc]
  exact hS
/-- Lists are frozen. -/
theorem GT.freeze {tk : List HObj} {fz : List Nat} {k : AS S → Prop} (hD : D.Ok) (h : GT D cx ro st f w ν σ tk ms) (hk : frzIn st fz k) :
    ∃ st' σ' ms', k st' ∧ st'.slots = st.slots ∧ st'.next = st.next ∧ Sub σ σ' ∧ GT D cx ro st' f w ν σ' tk ms' ∧ ∀ o e T l v, o ∈ fz → findN st.objs o = some (.vec e T l) → ν o = some v → RepF D σ' v (.sl T l) := by
  unfold frzIn at hk
  obtain ⟨l, hl, hk⟩ := optK_some hk
  obtain ⟨hn, hk⟩ := bif_f hk
  obtain ⟨tlo, h1, h2, h3, _⟩ := frzs_spec hl
  subst h1
  obtain ⟨ins, rest, hp, ho1, ho2⟩ := h.objs.takes h2 h3
  have hS := h.mem.perm (ms' := (tk ++ rest) ++ ins) (by
    rw [List.append_assoc]
    exact List.Perm.append_left tk (hp.trans List.perm_append_comm))
  obtain ⟨σ1, ms1, hS1, hs1, ho3⟩ := freeze_all hD hl rfl h3 ho1 hS
  refine ⟨_, σ1, ms1 ++ rest, hk, rfl, rfl, hs1, ⟨hS1.perm (by rw [List.append_assoc]; exact List.Perm.append_left tk List.perm_append_comm), ?_, fun j => (h.slots j).mono (Ext.refl ν) hs1⟩, frz_rep hl ho3⟩
  rw [List.append_assoc]
  exact ho3.append (ho2.mono (Ext.refl ν) hs1)

theorem obS_of_find {o : Nat} {a : AO S} (h : findN st.objs o = some a) : obS ro st o = some a := by unfold obS; rw [h]
theorem frz_in {fz : List Nat} {k : AS S → Prop} (hK : frzIn st fz k) : ∀ {a : AO S} (o : Nat), o ∈ fz → obS ro st o = some a → findN st.objs o = some a := by
  intro a o ho hob
  unfold frzIn at hK
  obtain ⟨_, hl, _⟩ := optK_some hK
  obtain ⟨tlo, h1, _, h3, _⟩ := frzs_spec hl
  subst h1
  obtain ⟨q, hq, rfl⟩ := List.mem_map.1 ho
  exact obS_rw (h3 q hq) hob
/-- A part is taken out of a place. -/
theorem getK_ok {tk : List HObj} {kd : Kd S} {s : SV S} {u : Value} {K : kd.ty → AS S → Prop} (hD : D.Ok) (h : GT D cx ro st f w ν σ tk ms) (hs : SRep D ν σ u s) (hK : getK D ro st s kd K) :
    ∃ x st' σ' hs ms', K x st' ∧ st'.slots = st.slots ∧ Sub σ σ' ∧ GT D cx ro st' f w ν σ' (tk ++ hs) ms' ∧ PartRep D σ' kd x u hs := by
  have same : ∀ {x : kd.ty}, K x st → PartRep D σ kd x u [] → ∃ x st' σ' hs ms', K x st' ∧ st'.slots = st.slots ∧ Sub σ σ' ∧ GT D cx ro st' f w ν σ' (tk ++ hs) ms' ∧ PartRep D σ' kd x u hs :=
    fun {x} hk hp => ⟨x, st, σ, [], ms, hk, rfl, Sub.refl _, by rw [List.append_nil]; exact h, hp⟩
  cases kd with
  | int kk =>
    simp only [getK] at hK
    split at hK
    · rename_i k' a
      obtain ⟨hk, hK2⟩ := bif_f hK
      clear hK
      have hk' : kk = k' := by simpa using hk
      subst hk'
      exact same hK2 ⟨rep_int hs, rfl⟩
    · exact hK.elim
  | bool =>
    obtain ⟨b, hb, hK⟩ := optK_some hK
    exact same hK ⟨bool_ok hs hb, rfl⟩
  | str =>
    simp only [getK] at hK
    split at hK
    · exact same hK ⟨rep_str hs, rfl⟩
    · exact hK.elim
  | sl T =>
    simp only [getK] at hK
    split at hK
    · rw [rep_nils hs] at same ⊢
      exact same hK ⟨RepF.ofRSl hD RSl.nil, rfl⟩
    · obtain ⟨e1, hK⟩ := cast_ok hK
      subst e1
      exact same hK ⟨rep_sl hs, rfl⟩
    · rename_i o
      obtain ⟨oh, hor⟩ := h.or
      split at hK
      · rename_i T' l hob
        obtain ⟨e1, hK⟩ := cast_ok hK
        subst e1
        obtain ⟨v, hν, _, hr⟩ := hor _ _ hob
        rw [rep_hnd hs hν] at same ⊢
        exact same hK ⟨hr, rfl⟩
      · rename_i e T' l hob
        obtain ⟨e1, hK⟩ := cast_ok hK
        subst e1
        obtain ⟨v, xs, hν, _⟩ := hor _ _ hob
        have hu := rep_hnd hs hν
        have hfo : findN st.objs o = some (.vec e T' l) := frz_in (ro := ro) hK o (by simp) hob
        obtain ⟨st', σ', ms', hK', hsl, _, hsub, hG, hrep⟩ := h.freeze hD hK
        exact ⟨_, st', σ', [], ms', hK', hsl, hsub, by rw [List.append_nil]; exact hG, ⟨hrep o e T' l u (by simp) hfo (hu ▸ hν), rfl⟩⟩
      · exact hK.elim
    · exact hK.elim
  | own e T =>
    simp only [getK] at hK
    split at hK
    case h_2 => exact hK.elim
    rename_i a l hq
    rcases ownQ_ok hq with ⟨rfl, rfl, rfl⟩ | ⟨o, rfl, rfl, hob⟩
    · have hu := rep_nils hs
      refine ⟨_, _, σ, [vec u e (D.size T) ([] : List (S.car T)).length []], ms, hK, rfl, Sub.refl _, ⟨?_, h.objs, h.slots⟩, ⟨[], rfl, ⟨by simp, fun i x hx => by simp at hx⟩, by simp, by rw [hu]; rfl⟩⟩
      rw [hu]
      have := (h.mem.addNil e (D.size T)).perm (ms' := (tk ++ [vec (.slice none 0 0) e (D.size T) ([] : List (S.car T)).length []]) ++ ms) (by rw [List.append_assoc]; exact List.perm_middle.symm)
      exact this
    · obtain ⟨m, ms', hr, hok, hG⟩ := h.take hob
      obtain ⟨v, xs, hν, hm, hE, hl⟩ := hr
      have hu := rep_hnd hs hν
      subst hm hu
      exact ⟨_, _, σ, _, ms', hK, rfl, Sub.refl _, hG, ⟨xs, rfl, hE, hl, vec_one hok⟩⟩
  | el T =>
    simp only [getK] at hK
    split at hK
    case h_2 => exact hK.elim
    rename_i cs
    obtain ⟨q, hq, hK⟩ := optK_some hK
    obtain ⟨xs, fz⟩ := q
    obtain ⟨oh, hor⟩ := h.or
    cases hs with
    | agg vs _ hl hr h1 =>
      obtain ⟨st', σ', ms', hK', hsl, _, hsub, hG, hrep⟩ := h.freeze hD hK
      obtain ⟨x, hx, hK'⟩ := optK_some hK'
      have hrow := toFs_ok hD hor hsub ⟨hl, hr, h1⟩ hq (fun o e T l v ho hob hν => hrep o e T l v ho (frz_in (ro := ro) hK o ho hob) hν)
      exact ⟨x, st', σ', [], ms', hK', hsl, hsub, by rw [List.append_nil]; exact hG, ⟨vs, rfl, hD.bld _ _ _ _ _ hx hrow, rfl⟩⟩
  | map K V => exact hK.elim
  | arr ty T N => exact hK.elim
  | iter K V => exact hK.elim

theorem getO_ok {tk : List HObj} {kd : Kd S} {o : Nat} {K : kd.ty → AS S → Prop} (h : GT D cx ro st f w ν σ tk ms) (hK : getO o st kd K) :
    ∃ x st' hs ms' u, K x st' ∧ st'.slots = st.slots ∧ GT D cx ro st' f w ν σ (tk ++ hs) ms' ∧ ν o = some u ∧ PartRep D σ kd x u hs := by
  cases kd with
  | own e T =>
    simp only [getO] at hK
    split at hK
    case h_2 => exact hK.elim
    rename_i e' T' l hob
    obtain ⟨he, hK⟩ := bif_f hK
    have he := Nat.eq_of_beq_eq_true he
    obtain ⟨e1, hK⟩ := cast_ok hK
    subst e1
    obtain ⟨m, ms', hr, hok, hG⟩ := h.take hob
    obtain ⟨v, xs, hν, hm, hE, hl⟩ := hr
    subst hm
    rw [← he] at hG hok
    exact ⟨_, _, _, ms', v, hK, rfl, hG, hν, ⟨xs, rfl, hE, hl, vec_one hok⟩⟩
  | map Kc V =>
    simp only [getO] at hK
    split at hK
    case h_2 => exact hK.elim
    rename_i K' V' F hob
    obtain ⟨e1, e2, hK⟩ := withMap_ok hK
    subst e1 e2
    obtain ⟨m, ms', hr, hok, hG⟩ := h.take hob
    obtain ⟨b, mm, hν, hm, hF⟩ := hr
    subst hm
    exact ⟨_, _, _, ms', _, hK, rfl, hG, hν, ⟨b, mm, rfl, rfl, hF⟩⟩
  | arr ty T N =>
    simp only [getO] at hK
    split at hK
    case h_2 => exact hK.elim
    rename_i ty' T' N' l hob
    obtain ⟨hc, hK⟩ := bif_f hK
    obtain ⟨h1, h2⟩ := and_b hc
    have h1 := Nat.eq_of_beq_eq_true h1
    have h2 := Nat.eq_of_beq_eq_true h2
    obtain ⟨e1, hK⟩ := cast_ok hK
    subst e1
    obtain ⟨m, ms', hr, hok, hG⟩ := h.take hob
    obtain ⟨b, cs, hν, hm, hE, hN⟩ := hr
    subst hm
    rw [← h1] at hG
    exact ⟨_, _, _, ms', _, hK, rfl, hG, hν, ⟨b, cs, rfl, rfl, hE, hN.trans h2.symm⟩⟩
  | iter Kc V =>
    simp only [getO] at hK
    split at hK
    case h_2 => exact hK.elim
    rename_i K' V' F done cur hob
    obtain ⟨e1, e2, hK⟩ := withMap_ok hK
    subst e1 e2
    obtain ⟨e1, hK⟩ := cast_ok hK
    obtain ⟨m, ms', hr, hok, hG⟩ := h.take hob
    obtain ⟨r, b, es, clock, cv, hν, hm, h1, h2, h3, h4, h5, h6, _⟩ := hr
    subst hm
    exact ⟨_, _, _, ms', _, hK, rfl, hG, hν, ⟨r, b, es, clock, cv, rfl, rfl, h1, h2, h3, h4, h5, h6⟩⟩
  | _ => exact hK.elim

/-- A cell of an object of the state. -/
theorem GT.cell {tk : List HObj} {o i : Nat} {ty : TypeId} {l : List (SV S)} {s : SV S} (h : GT D cx ro st f w ν σ tk ms) (ho : findN st.objs o = some (.cells ty l)) (hi : (resL (ro.cell o) 0 l)[i]? = some s) :
    ∃ u, cellV ν w o i = some u ∧ SRep D ν σ u s := by
  obtain ⟨m, hm, hr⟩ := h.objs.find (o := o) (by rw [findN_append, ho])
  obtain ⟨b, cs, hν, hmm, hrow⟩ := hr
  subst hmm
  have hok := h.mem.own _ (show blk b ty cs ∈ tk ++ ms by simp [hm])
  obtain ⟨u, hu⟩ := getq (l := cs) (k := i) (by rw [hrow.1]; exact lt_of_getq hi)
  refine ⟨u, ?_, hrow.2.1 i u s hu hi⟩
  unfold cellV
  rw [hν]
  have := blk_row hok i u hu
  rw [add_lit, Nat.zero_add] at this
  exact this
theorem resL_get {g : Nat → SV S} : ∀ {l : List (SV S)} {k i : Nat} {s : SV S}, l[i]? = some s → s ≠ .lk → (resL g k l)[i]? = some s
  | x :: l, k, 0, s, h, hn => by
    simp at h
    subst h
    cases x <;> first | rfl | exact absurd rfl hn
  | x :: l, k, i + 1, s, h, hn => by
    have := resL_get (g := g) (l := l) (k := k + 1) (i := i) (by simpa using h) hn
    cases x <;> simpa [resL] using this
theorem getK_lk {kd : Kd S} {K : kd.ty → AS S → Prop} (h : getK D ro st .lk kd K) : False := by
  cases kd with
  | bool =>
    simp only [getK] at h
    obtain ⟨b, hb, _⟩ := optK_some h
    cases hb
  | own e T =>
    simp only [getK] at h
    split at h
    · rename_i hq; cases hq
    · exact h
  | _ => exact h.elim
theorem getAll_ok (hD : D.Ok) : ∀ {l : List (Item S)} {st : AS S} {σ : Hv} {tk ms : List HObj} {K : HL l → AS S → Prop}, GT D cx ro st f w ν σ tk ms → getAll D ro l st K →
    ∃ xs st' σ' hs ms', K xs st' ∧ st'.slots = st.slots ∧ Sub σ σ' ∧ GT D cx ro st' f w ν σ' (tk ++ hs) ms' ∧ Parts D ν σ' f w l xs hs := by
  intro l
  induction l with
  | nil => intro st σ tk ms K h hK; exact ⟨(), st, σ, [], ms, hK, rfl, Sub.refl _, by rw [List.append_nil]; exact h, rfl⟩
  | cons it l ih =>
    intro st σ tk ms K h hK
    obtain ⟨pl, kd⟩ := it
    simp only [getAll] at hK
    cases pl with
    | slot j =>
      simp only [getI] at hK
      obtain ⟨x, st1, σ1, h1, ms1, hK1, hsl1, hsub1, hG1, hp1⟩ := getK_ok hD h (h.slots j) hK
      obtain ⟨xs, st2, σ2, h2, ms2, hK2, hsl2, hsub2, hG2, hp2⟩ := ih hG1 hK1
      exact ⟨(x, xs), st2, σ2, h1 ++ h2, ms2, hK2, hsl2.trans hsl1, hsub1.trans hsub2, by rw [← List.append_assoc]; exact hG2, ⟨h1, h2, rfl, hp1.mono hsub2, hp2⟩⟩
    | cell o i =>
      simp only [getI] at hK
      split at hK
      case h_2 => exact hK.elim
      rename_i ty lc hob
      split at hK
      case h_2 => exact hK.elim
      rename_i s hs
      have hne : s ≠ .lk := fun he => by subst he; exact getK_lk hK
      obtain ⟨u, hu, hsr⟩ := h.cell hob (resL_get hs hne)
      obtain ⟨x, st1, σ1, h1, ms1, hK1, hsl1, hsub1, hG1, hp1⟩ := getK_ok hD h hsr hK
      obtain ⟨xs, st2, σ2, h2, ms2, hK2, hsl2, hsub2, hG2, hp2⟩ := ih hG1 hK1
      exact ⟨(x, xs), st2, σ2, h1 ++ h2, ms2, hK2, hsl2.trans hsl1, hsub1.trans hsub2, by rw [← List.append_assoc]; exact hG2, ⟨h1, h2, u, rfl, hu, hp1.mono hsub2, hp2⟩⟩
    | obj o =>
      simp only [getI] at hK
      obtain ⟨x, st1, h1, ms1, u, hK1, hsl1, hG1, hu, hp1⟩ := getO_ok h hK
      obtain ⟨xs, st2, σ2, h2, ms2, hK2, hsl2, hsub2, hG2, hp2⟩ := ih hG1 hK1
      exact ⟨(x, xs), st2, σ2, h1 ++ h2, ms2, hK2, hsl2.trans hsl1, hsub2, by rw [← List.append_assoc]; exact hG2, ⟨h1, h2, u, rfl, hu, hp1.mono hsub2, hp2⟩⟩
#print axioms getAll_ok
end Go.Fx
