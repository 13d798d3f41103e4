/- What is handed to a call and what comes back, in memory. Conditions: those in the statements. -/
import Derived.Test.YtkfcnibjlmiboaaFxCode
namespace Go.Fx
open Go Go.RowKit Go.Fl Go.Fl.Lk
variable {S : Sig} {P : Program} {D : Shp S} {ν ν' ν0 : Nm} {σ τ : Hv} {n : Nat} {f : Fr}
variable {w : World} {cx : Cx} {ro : Ro S} {st : AS S} {ms : List HObj} {ob : Nat → Option (AO S)} {lkc : Nat → Nat → SV S} {oh : Nat → HObj}

mutual
inductive Lay (D : Shp S) (σ : Hv) : Tr S → Value → List HObj → Prop
  | f {x : FV S} {v : Value} (h : RepF D σ v x) : Lay D σ (.f x) v []
  | vec {e : TypeId} {T : S.C} {l : List (S.car T)} {v : Value} {xs : List Value} (h : Els D σ T xs l) (hl : l.length ≤ 140737488355328) (h1 : v.oneCell' = true) : Lay D σ (.vec e T l) v [vec v e (D.size T) l.length xs]
  | arr {T : S.C} {N : Nat} {l : List (S.car T)} {cs : List Value} (hN : l.length = N) (h : Els D σ T cs l) : Lay D σ (.arr T N l) (.agg cs.toArray) []
  | map {K V : S.C} {F : S.car K → Option (S.car V)} {b : Nat} {m : S.car K → Option Value} (h : ∀ k, ORel (ElV D σ V) (m k) (F k)) : Lay D σ (.map K V F) (.map (some b)) [smapK (kenc D K) b m]
  | ptr {ty : TypeId} {ts : List (Tr S)} {b : Nat} {cs : List Value} {ms : List HObj} (h : LayL D σ ts cs ms) (h1 : ∀ v ∈ cs, v.oneCell' = true) : Lay D σ (.ptr ty ts) (.pointer (some ⟨b, 0, none⟩)) (blk b ty cs :: ms)
  | agg {ts : List (Tr S)} {cs : List Value} {ms : List HObj} (h : LayL D σ ts cs ms) (h1 : ∀ v ∈ cs, v.oneCell' = true) : Lay D σ (.agg ts) (.agg cs.toArray) ms
  | el {T : S.C} {x : S.car T} {cs : List Value} (h : RowF D σ cs (D.shape T x)) : Lay D σ (.el T x) (.agg cs.toArray) []
inductive LayL (D : Shp S) (σ : Hv) : List (Tr S) → List Value → List HObj → Prop
  | nil : LayL D σ [] [] []
  | cons {t : Tr S} {ts : List (Tr S)} {v : Value} {vs : List Value} {ms ms' : List HObj} (h : Lay D σ t v ms) (h' : LayL D σ ts vs ms') : LayL D σ (t :: ts) (v :: vs) (ms ++ ms')
end
mutual
inductive LayB (D : Shp S) (σ : Hv) : Tr S → Tr S → Value → List HObj → Value → List HObj → Prop
  | same {t : Tr S} {v0 v1 : Value} {m0 : List HObj} (h : Lay D σ t v1 []) : LayB D σ t .same v0 m0 v1 []
  | v {t t' : Tr S} {v0 v1 : Value} {m0 : List HObj} (h : Lay D σ t' v1 []) : LayB D σ t t' v0 m0 v1 []
  | vec {t : Tr S} {v0 v1 : Value} {m0 : List HObj} {e : TypeId} {T : S.C} {l : List (S.car T)} {xs : List Value} (h : Els D σ T xs l) (hl : l.length ≤ 140737488355328) (h1 : v1.oneCell' = true) : LayB D σ t (.vec e T l) v0 m0 v1 [vec v1 e (D.size T) l.length xs]
  | map {t : Tr S} {K V : S.C} {F : S.car K → Option (S.car V)} {b : Nat} {m : S.car K → Option Value} {m0 : List HObj} (h : ∀ k, ORel (ElV D σ V) (m k) (F k)) : LayB D σ t (.map K V F) (.map (some b)) m0 (.map (some b)) [smapK (kenc D K) b m]
  | ptr {ty0 ty : TypeId} {ts0 ts : List (Tr S)} {b : Nat} {cs0 cs : List Value} {m0 ms : List HObj} (h : LayBL D σ ts0 ts cs0 m0 cs ms) (h1 : ∀ v ∈ cs, v.oneCell' = true) : LayB D σ (.ptr ty0 ts0) (.ptr ty ts) (.pointer (some ⟨b, 0, none⟩)) (blk b ty0 cs0 :: m0) (.pointer (some ⟨b, 0, none⟩)) (blk b ty cs :: ms)
inductive LayBL (D : Shp S) (σ : Hv) : List (Tr S) → List (Tr S) → List Value → List HObj → List Value → List HObj → Prop
  | nil : LayBL D σ [] [] [] [] [] []
  | cons {t0 t : Tr S} {ts0 ts : List (Tr S)} {v0 v : Value} {vs0 vs : List Value} {a0 a m0 m : List HObj} (h : LayB D σ t0 t v0 a0 v a) (h' : LayBL D σ ts0 ts vs0 m0 vs m) : LayBL D σ (t0 :: ts0) (t :: ts) (v0 :: vs0) (a0 ++ m0) (v :: vs) (a ++ m)
end
/-- What comes back through the arguments. -/
inductive LayT (D : Shp S) (σ : Hv) : List (Tr S) → List (Tr S) → List Value → List HObj → List HObj → Prop
  | nil : LayT D σ [] [] [] [] []
  | skip {t0 : Tr S} {ts0 ts : List (Tr S)} {v0 : Value} {vs : List Value} {a0 m0 m : List HObj} (h' : LayT D σ ts0 ts vs m0 m) : LayT D σ (t0 :: ts0) (.same :: ts) (v0 :: vs) (a0 ++ m0) m
  | keep {t0 t : Tr S} {ts0 ts : List (Tr S)} {v0 : Value} {vs : List Value} {a0 a m0 m : List HObj} (h : LayB D σ t0 t v0 a0 v0 a) (h' : LayT D σ ts0 ts vs m0 m) : LayT D σ (t0 :: ts0) (t :: ts) (v0 :: vs) (a0 ++ m0) (a ++ m)

/-- Nil lists may be laid beside. -/
def Nilx (a b : List HObj) : Prop := ∀ (c : Cx) (w : World) (σ : Hv) (rest : List HObj), St c w σ (a ++ rest) → St c w σ (b ++ rest)
theorem Nilx.refl (a : List HObj) : Nilx a a := fun _ _ _ _ h => h
theorem Nilx.append {a b a' b' : List HObj} (h : Nilx a b) (h' : Nilx a' b') : Nilx (a ++ a') (b ++ b') := by
  intro c w σ rest hS
  rw [List.append_assoc] at hS
  have h1 := h c w σ _ hS
  have h2 := h1.perm (ms' := a' ++ (b ++ rest)) (by rw [← List.append_assoc, ← List.append_assoc]; exact List.Perm.append_right rest List.perm_append_comm)
  have h3 := h' c w σ _ h2
  exact h3.perm (by rw [← List.append_assoc]; exact List.Perm.append_right rest List.perm_append_comm)
theorem Nilx.nil (e : TypeId) (size : Nat) : Nilx [] [vec (.slice none 0 0) e size 0 []] := fun _ _ _ _ h => h.addNil e size

theorem LayL.frozen : ∀ {xs : List (FV S)} {cs : List Value}, RowF D σ cs xs → LayL D σ (xs.map Tr.f) cs []
  | [], cs, h => by
    have : cs = [] := List.eq_nil_of_length_eq_zero h.1
    subst this; exact .nil
  | x :: xs, cs, h => by
    cases cs with
    | nil => have := h.1; cases this
    | cons c cs =>
      have h1 := h.2 0 c x rfl rfl
      exact LayL.cons (ms := []) (.f h1) (LayL.frozen ⟨by have := h.1; simpa using this, fun j v s hj hk => h.2 (j + 1) v s (by simpa using hj) (by simpa using hk)⟩)
theorem RowF.ones {cs : List Value} {xs : List (FV S)} (h : RowF D σ cs xs) : ∀ v ∈ cs, v.oneCell' = true := (h.toS (ν := fun _ => none)).2.2
theorem toC_ok {s : SV S} {v : Value} {x : FV S} (hs : SRep D ν σ v s) (h : toC s = some x) : RepF D σ v x := by
  cases hs with
  | f hf => cases h; exact hf
  | lit b => cases h; exact .bool b
  | pb p d => cases h; exact .bool _
  | pbn p d => cases h; exact .bool _
  | _ => cases h
theorem toC_back {s : SV S} {v : Value} {x : FV S} (h : toC s = some x) (hr : RepF D σ v x) : SRep D ν σ v s := by
  cases s with
  | f y => cases h; exact .f hr
  | lit b => cases h; cases hr; exact .lit b
  | pb p d neg =>
    cases neg with
    | false => cases h; cases hr; exact .pb p d
    | true => cases h; cases hr; exact .pbn p d
  | _ => cases h
theorem gathV_ok {s : SV S} {v : Value} {t : Tr S} {tk fz : List Nat} (hD : D.Ok) (hor : ∀ o a, ob o = some a → ORep D ν σ lkc o a (oh o)) (hs : SRep D ν σ v s) (h : gathV ob s = some (t, tk, fz))
    (hf : ∀ o e T l v, o ∈ fz → ob o = some (.vec e T l) → ν o = some v → RepF D σ v (.sl T l)) : tk = [] ∧ Lay D σ t v [] := by
  have one : ∀ {s : SV S}, SRep D ν σ v s → (match toF ob s with | some (x, b) => some (Tr.f x, ([] : List Nat), b) | none => none) = some (t, tk, fz) → tk = [] ∧ Lay D σ t v [] := by
    intro s hs h
    split at h
    · rename_i x b hx
      cases h
      rcases toF_ok hD hor hs hx with ⟨_, h1⟩ | ⟨o, e, T, l, h0, rfl, hob, hν⟩
      · exact ⟨rfl, .f h1⟩
      · subst h0
        exact ⟨rfl, .f (hf o e T l v (by simp) hob hν)⟩
    · cases h
  cases hs with
  | agg cs ss hl hr h1 =>
    simp only [gathV] at h
    split at h
    case h_2 => cases h
    rename_i xs b hxs
    cases h
    have hrow := toFs_ok hD hor (Sub.refl σ) ⟨hl, hr, h1⟩ hxs hf
    exact ⟨rfl, .agg (LayL.frozen hrow) h1⟩
  | arr cs T N l hN hl hr => cases h; exact ⟨rfl, .arr hN ⟨hl, hr⟩⟩
  | f hf' => exact one (.f hf') h
  | lit b => exact one (.lit b) h
  | pb p d => exact one (.pb p d) h
  | pbn p d => exact one (.pbn p d) h
  | tup cs ss hl hr => exact one (.tup cs ss hl hr) h
  | ref o off b hν => exact one (.ref o off b hν) h
  | eref T o i off b m cap hν hi => exact one (.eref T o i off b m cap hν hi) h
  | aref T N o i off b hν hi => exact one (.aref T N o i off b hν hi) h
  | fptr ad cs l off hr hR => exact one (.fptr ad cs l off hr hR) h
  | fap ad cs T N l hN hr hl hR => exact one (.fap ad cs T N l hN hr hl hR) h
  | hnd o v hν h1 => exact one (.hnd o v hν h1) h
  | fn g a b first cap h1 h2 h3 h4 => exact one (.fn g a b first cap h1 h2 h3 h4) h
  | und => exact one .und h
  | dead => exact one (.dead _) h

theorem nils_sl {T : S.C} {v : Value} (h : RepF D σ v .nils) : RepF D σ v (.sl T []) := by
  cases h
  exact .sl T [] none 0 (fun _ _ => undef) (Nat.le_refl _) (by simp) (fun i x hx => by simp at hx) (fun i x j s hx => by simp at hx)
theorem gathS_ok {s : SV S} {v : Value} {T : S.C} {t : Tr S} {tk fz : List Nat} (hD : D.Ok) (hor : ∀ o a, ob o = some a → ORep D ν σ lkc o a (oh o)) (hs : SRep D ν σ v s) (h : gathS ob T s = some (t, tk, fz))
    (hf : ∀ o e T l v, o ∈ fz → ob o = some (.vec e T l) → ν o = some v → RepF D σ v (.sl T l)) : tk = [] ∧ Lay D σ t v [] := by
  unfold gathS at h
  split at h
  · cases h
    cases hs with
    | f hs => exact ⟨rfl, .f (nils_sl hs)⟩
  · split at h
    case h_2 => cases h
    rename_i T' l b hx
    split at h
    case h_2 => cases h
    rename_i e _
    cases h
    subst e
    rcases toF_ok hD hor hs hx with ⟨_, h1⟩ | ⟨o, e, T, l, h0, h1, hob, hν⟩
    · exact ⟨rfl, .f h1⟩
    · cases h1
      subst h0
      exact ⟨rfl, .f (hf o e _ _ v (by simp) hob hν)⟩
theorem gathE_ok {s : SV S} {v : Value} {T : S.C} {t : Tr S} {tk fz : List Nat} (hD : D.Ok) (hor : ∀ o a, ob o = some a → ORep D ν σ lkc o a (oh o)) (hs : SRep D ν σ v s) (h : gathE D ob T s = some (t, tk, fz))
    (hf : ∀ o e T l v, o ∈ fz → ob o = some (.vec e T l) → ν o = some v → RepF D σ v (.sl T l)) : tk = [] ∧ Lay D σ t v [] := by
  unfold gathE at h
  split at h
  case h_2 => cases h
  split at h
  case h_2 => cases h
  rename_i xs b hxs
  split at h
  case h_2 => cases h
  rename_i x hx
  cases h
  cases hs with
  | agg cs _ hl hr h1 =>
    have hrow := toFs_ok hD hor (Sub.refl σ) ⟨hl, hr, h1⟩ hxs hf
    exact ⟨rfl, .el (hD.bld T xs x σ cs hx hrow)⟩

/-- What is handed over is named. -/
theorem tko_nil {tko : List (Nat × AO S)} {ins : List HObj} (h : tko.map (·.1) = []) (ho : Objs D ν σ lkc tko ins) : ins = [] := by
  cases tko with
  | cons => cases h
  | nil => cases ins with
    | nil => rfl
    | cons => exact ho.elim
mutual
theorem gath_lay (hD : D.Ok) (hor : ∀ o a, ob o = some a → ORep D ν σ lkc o a (oh o)) : ∀ {pk : PK S} {s : SV S} {v : Value} {t : Tr S} {tk fz : List Nat} {tko : List (Nat × AO S)} {ins : List HObj}, SRep D ν σ v s → gath D ob lkc pk s = some (t, tk, fz) →
    tko.map (·.1) = tk → (∀ q ∈ tko, ob q.1 = some q.2) → Objs D ν σ lkc tko ins → (∀ o e T l v, o ∈ fz → ob o = some (.vec e T l) → ν o = some v → RepF D σ v (.sl T l)) → ∃ ins', Lay D σ t v ins' ∧ Nilx ins ins'
  | .v, s, v, t, tk, fz, tko, ins, hs, h, ht, _, ho, hf => by
    simp only [gath] at h
    obtain ⟨rfl, hl⟩ := gathV_ok hD hor hs h hf
    have := tko_nil ht ho
    subst this
    exact ⟨[], hl, Nilx.refl _⟩
  | .sl T, s, v, t, tk, fz, tko, ins, hs, h, ht, _, ho, hf => by
    simp only [gath] at h
    obtain ⟨rfl, hl⟩ := gathS_ok hD hor hs h hf
    have := tko_nil ht ho
    subst this
    exact ⟨[], hl, Nilx.refl _⟩
  | .el T, s, v, t, tk, fz, tko, ins, hs, h, ht, _, ho, hf => by
    simp only [gath] at h
    obtain ⟨rfl, hl⟩ := gathE_ok hD hor hs h hf
    have := tko_nil ht ho
    subst this
    exact ⟨[], hl, Nilx.refl _⟩
  | .c, s, v, t, tk, fz, tko, ins, hs, h, ht, _, ho, _ => by
    simp only [gath] at h
    cases hc : toC s with
    | none => rw [hc] at h; cases h
    | some x =>
      rw [hc] at h; cases h
      have := tko_nil ht ho
      subst this
      exact ⟨[], .f (toC_ok hs hc), Nilx.refl _⟩
  | .own e T, s, v, t, tk, fz, tko, ins, hs, h, ht, hq, ho, _ => by
    simp only [gath] at h
    split at h
    case h_2 => cases h
    rename_i a l hown
    cases h
    rcases ownQ_ok hown with ⟨rfl, rfl, rfl⟩ | ⟨o, rfl, rfl, hob⟩
    · have := tko_nil ht ho
      subst this
      have hv := rep_nils hs
      subst hv
      exact ⟨_, .vec (xs := []) ⟨by simp, fun i x hx => by simp at hx⟩ (by simp) rfl, Nilx.nil e (D.size T)⟩
    · match tko, ht, hq, ho with
      | [q], ht, hq, ho =>
        match ins, ho with
        | [m], ho =>
          obtain ⟨o', a⟩ := q
          simp at ht
          subst ht
          have ha := hq (o', a) (by simp)
          simp only at ha
          rw [hob] at ha; cases ha
          obtain ⟨u, xs, hν, hm, hE, hl⟩ := ho.1
          subst hm
          have hv := rep_hnd hs hν
          subst hv
          have h1 : v.oneCell' = true := by cases hs with | hnd _ _ _ h => exact h
          exact ⟨_, .vec hE hl h1, Nilx.refl _⟩
  | .map K V, s, v, t, tk, fz, tko, ins, hs, h, ht, hq, ho, _ => by
    simp only [gath] at h
    split at h
    case h_2 => cases h
    rename_i o
    split at h
    case h_2 => cases h
    rename_i K' V' F hob
    split at h
    case h_2 => cases h
    rename_i e1 e2 _ _
    cases h
    subst e1 e2
    match tko, ht, hq, ho with
    | [q], ht, hq, ho =>
      match ins, ho with
      | [m], ho =>
        obtain ⟨o', a⟩ := q
        simp at ht
        subst ht
        have ha := hq (o', a) (by simp)
        simp only at ha
        rw [hob] at ha; cases ha
        obtain ⟨b, mm, hν, hm, hF⟩ := ho.1
        subst hm
        have hv := rep_hnd hs hν
        subst hv
        exact ⟨_, .map hF, Nilx.refl _⟩
  | .ptr ty pk, s, v, t, tk, fz, tko, ins, hs, h, ht, hq, ho, hf => by
    simp only [gath] at h
    split at h
    case h_2 => cases h
    rename_i o
    split at h
    case h_2 => cases h
    rename_i ty' l hob
    cases hb : Nat.beq ty ty' with
    | false => rw [hb] at h; cases h
    | true =>
      rw [hb] at h
      have hb := Nat.eq_of_beq_eq_true hb
      subst hb
      simp only [cond_true] at h
      split at h
      case h_2 => cases h
      rename_i ts a b hg
      cases h
      match tko, ht, hq, ho with
      | q :: tko, ht, hq, ho =>
        match ins, ho with
        | m :: ins, ho =>
          obtain ⟨o', ao⟩ := q
          injection ht with h1 h2
          simp only at h1
          subst h1
          have ha := hq (o', ao) (by simp)
          simp only at ha
          rw [hob] at ha; cases ha
          obtain ⟨b', cs, hν, hm, hrow⟩ := ho.1
          subst hm
          cases hs with
          | ref _ _ b2 hν2 =>
            rw [hν] at hν2; cases hν2
            obtain ⟨ins', hl, hx⟩ := gaths_lay hD hor (pk := pk) hrow.1 hrow.2.1 hg h2 (fun q hq' => hq q (by simp [hq'])) ho.2 hf
            exact ⟨_, .ptr hl hrow.2.2, Nilx.append (Nilx.refl [_]) hx⟩
  | .agg pk, s, v, t, tk, fz, tko, ins, hs, h, ht, hq, ho, hf => by
    simp only [gath] at h
    split at h
    case h_2 => cases h
    rename_i l
    split at h
    case h_2 => cases h
    rename_i ts a b hg
    cases h
    cases hs with
    | agg cs _ hl hr h1 =>
      obtain ⟨ins', hl, hx⟩ := gaths_lay hD hor (pk := pk) hl hr hg ht hq ho hf
      exact ⟨_, .agg hl h1, hx⟩
theorem gaths_lay (hD : D.Ok) (hor : ∀ o a, ob o = some a → ORep D ν σ lkc o a (oh o)) : ∀ {pk : List (PK S)} {ss : List (SV S)} {vs : List Value} {ts : List (Tr S)} {tk fz : List Nat} {tko : List (Nat × AO S)} {ins : List HObj}, vs.length = ss.length →
    (∀ (j : Nat) v s, vs[j]? = some v → ss[j]? = some s → SRep D ν σ v s) → gaths D ob lkc pk ss = some (ts, tk, fz) →
    tko.map (·.1) = tk → (∀ q ∈ tko, ob q.1 = some q.2) → Objs D ν σ lkc tko ins → (∀ o e T l v, o ∈ fz → ob o = some (.vec e T l) → ν o = some v → RepF D σ v (.sl T l)) → ∃ ins', LayL D σ ts vs ins' ∧ Nilx ins ins'
  | [], ss, vs, ts, tk, fz, tko, ins, hl, _, h, ht, _, ho, _ => by
    cases ss with
    | cons => cases h
    | nil =>
      cases h
      cases vs with
      | cons => cases hl
      | nil =>
        have := tko_nil ht ho
        subst this
        exact ⟨[], .nil, Nilx.refl _⟩
  | p :: pk, ss, vs, ts, tk, fz, tko, ins, hl, hr, h, ht, hq, ho, hf => by
    cases ss with
    | nil => cases h
    | cons s ss =>
      cases vs with
      | nil => cases hl
      | cons v vs =>
        simp only [gaths] at h
        split at h
        case h_2 => cases h
        rename_i t a b ts' a' b' h1 h2
        cases h
        obtain ⟨tko1, tko2, rfl, ht1, ht2⟩ := List.map_eq_append_iff.1 ht
        obtain ⟨m1, m2, rfl, ho1, ho2⟩ := ho.split
        obtain ⟨i1, hl1, hx1⟩ := gath_lay hD hor (pk := p) (hr 0 v s rfl rfl) h1 ht1 (fun q hq' => hq q (by simp [hq'])) ho1 (fun o e T l v hm => hf o e T l v (by simp [hm]))
        obtain ⟨i2, hl2, hx2⟩ := gaths_lay hD hor (pk := pk) (by simpa using hl) (fun j v s hj hk => hr (j + 1) v s (by simpa using hj) (by simpa using hk)) h2 ht2 (fun q hq' => hq q (by simp [hq'])) ho2 (fun o e T l v hm => hf o e T l v (by simp [hm]))
        exact ⟨_, .cons hl1 hl2, Nilx.append hx1 hx2⟩
end
end Go.Fx
