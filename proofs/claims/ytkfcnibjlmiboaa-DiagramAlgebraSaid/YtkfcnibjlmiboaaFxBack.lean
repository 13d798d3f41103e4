/- What a function gives back through its arguments. Conditions: those in the statements. -/
import Derived.Test.YtkfcnibjlmiboaaFxUpd
namespace Go.Fx
open Go Go.RowKit Go.Fl Go.Fl.Lk
variable {S : Sig} {P : Program} {D : Shp S} {ν ν' ν0 ν1 : Nm} {σ τ σ0 σ1 : Hv} {n : Nat} {f : Fr}
variable {w w0 : World} {cx : Cx} {ro : Ro S} {st : AS S} {ms : List HObj} {ob os : Nat → Option (AO S)} {lkc : Nat → Nat → SV S} {oh : Nat → HObj}

theorem inst_f {t : Tr S} {x : FV S} {nx nx' : Nat} {a : List (Nat × AO S)} (h : inst D t nx = some (.f x, a, nx')) : t = .f x := by
  cases t with
  | f y => cases h; rfl
  | same => cases h
  | vec => cases h
  | arr => cases h
  | map => cases h
  | ptr ty ts =>
    simp only [inst] at h
    split at h <;> cases h
  | el => cases h
  | agg ts =>
    simp only [inst] at h
    split at h <;> cases h
theorem inst_ref {t : Tr S} {o nx nx' : Nat} {a : List (Nat × AO S)} (h : inst D t nx = some (.ref o 0, a, nx')) : ∃ ty ts cs a', t = .ptr ty ts ∧ o = nx ∧ insts D ts (nx + 1) = some (cs, a', nx') ∧ a = (nx, .cells ty cs) :: a' := by
  cases t with
  | f y => cases h
  | same => cases h
  | vec => cases h
  | arr => cases h
  | map => cases h
  | ptr ty ts =>
    simp only [inst] at h
    split at h
    · rename_i cs a' nx2 hi
      cases h
      exact ⟨ty, ts, cs, a', rfl, rfl, hi, rfl⟩
    · cases h
  | el => cases h
  | agg ts =>
    simp only [inst] at h
    split at h <;> cases h

theorem backs_len : ∀ {pk : List (PK S)} {is l ss : List (SV S)} {r : List (Tr S) × List Nat × List Nat}, backs ob os lkc pk is l ss = some r → is.length = ss.length
  | [], [], [], [], _, _ => rfl
  | p :: pk, i :: is, o :: l, s :: ss, r, h => by
    simp only [backs] at h
    split at h
    case h_2 => cases h
    rename_i h2
    rw [List.length_cons, List.length_cons, backs_len h2]

mutual
theorem back_ok (hD : D.Ok) (hor : ∀ o a, ob o = some a → ORep D ν σ lkc o a (oh o)) (hor0 : ∀ o ty l, os o = some (.cells ty l) → ∃ b cs, ν0 o = some (.pointer (some ⟨b, 0, none⟩)) ∧ RowS D ν0 σ0 cs l ∧ (blk b ty cs).ok w0)
    (hlk : ∀ o ty l, os o = some (.cells ty l) → ∀ j, lkc o j = l.getD j .dead) (hx : Ext ν0 ν) : ∀ {pk : PK S} {i o s : SV S} {t t0 : Tr S} {tk fz : List Nat} {v0 v1 : Value} {m0 : List HObj} {nx nxi : Nat} {osi tko : List (Nat × AO S)} {msx : List HObj},
    Lay D σ0 t0 v0 m0 → inst D t0 nx = some (i, osi, nxi) → (∀ q ∈ osi, os q.1 = some q.2) → (∀ q ∈ m0, q.ok w0) → SRep D ν0 σ0 v0 i → SRep D ν σ v1 s → (o = .lk → s = i) → back ob os lkc pk i o s = some (t, tk, fz) →
    tko.map (·.1) = tk → (∀ q ∈ tko, ob q.1 = some q.2) → Objs D ν σ lkc tko msx → (∀ o e T l v, o ∈ fz → ob o = some (.vec e T l) → ν o = some v → RepF D σ v (.sl T l)) → ∃ m', LayB D σ t0 t v0 m0 v1 m' ∧ Nilx msx m'
  | .v, i, o, s, t, t0, tk, fz, v0, v1, m0, nx, nxi, osi, tko, msx, hL, hi, hosi, hok, h0, hs, hlo, hb, ht, hq, ho, hf => by
    simp only [back] at hb
    obtain ⟨rfl, hl⟩ := gathV_ok hD hor hs hb hf
    have := tko_nil ht ho
    subst this
    exact ⟨[], .v hl, Nilx.refl _⟩
  | .c, i, o, s, t, t0, tk, fz, v0, v1, m0, nx, nxi, osi, tko, msx, hL, hi, hosi, hok, h0, hs, hlo, hb, ht, hq, ho, hf => by
    simp only [back] at hb
    split at hb
    case h_2 => cases hb
    cases hb
    have h1 := hlo rfl
    subst h1
    have h2 := inst_f hi
    subst h2
    have := tko_nil ht ho
    subst this
    cases hs with
    | f h => exact ⟨[], .same (.f h), Nilx.refl _⟩
  | .sl T, i, o, s, t, t0, tk, fz, v0, v1, m0, nx, nxi, osi, tko, msx, hL, hi, hosi, hok, h0, hs, hlo, hb, ht, hq, ho, hf => by
    simp only [back] at hb
    obtain ⟨rfl, hl⟩ := gathS_ok hD hor hs hb hf
    have := tko_nil ht ho
    subst this
    exact ⟨[], .v hl, Nilx.refl _⟩
  | .el T, i, o, s, t, t0, tk, fz, v0, v1, m0, nx, nxi, osi, tko, msx, hL, hi, hosi, hok, h0, hs, hlo, hb, ht, hq, ho, hf => by
    simp only [back] at hb; cases hb
  | .own e T, i, o, s, t, t0, tk, fz, v0, v1, m0, nx, nxi, osi, tko, msx, hL, hi, hosi, hok, h0, hs, hlo, h, ht, hq, ho, hf => by
    simp only [back] at h
    split at h
    case h_2 => cases h
    rename_i a l hown
    cases h
    rcases ownQ_ok hown with ⟨rfl, rfl, rfl⟩ | ⟨o, rfl, rfl, hob⟩
    · have := tko_nil ht ho
      subst this
      have hv := rep_nils hs
      subst hv
      exact ⟨_, .vec (xs := []) ⟨by simp, fun i x hx => by simp at hx⟩ (by simp) rfl, Nilx.nil e (D.size T)⟩
    · match tko, ht, hq, ho with
      | [q], ht, hq, ho =>
        match msx, ho with
        | [m], ho =>
          obtain ⟨o', a⟩ := q
          simp at ht
          subst ht
          have ha := hq (o', a) (by simp)
          simp only at ha
          rw [hob] at ha; cases ha
          obtain ⟨u, xs, hν, hm, hE, hl⟩ := ho.1
          subst hm
          have hv := rep_hnd hs hν
          subst hv
          have h1 : v1.oneCell' = true := by cases hs with | hnd _ _ _ h => exact h
          exact ⟨_, .vec hE hl h1, Nilx.refl _⟩
  | .map K V, i, o, s, t, t0, tk, fz, v0, v1, m0, nx, nxi, osi, tko, msx, hL, hi, hosi, hok, h0, hs, hlo, h, ht, hq, ho, hf => by
    simp only [back] at h
    split at h
    case h_2 => cases h
    rename_i o1 o2
    cases hb : Nat.beq o1 o2 with
    | false => rw [hb] at h; cases h
    | true =>
      rw [hb] at h
      have hb := Nat.eq_of_beq_eq_true hb
      subst hb
      simp only [cond_true] at h
      split at h
      case h_2 => cases h
      rename_i K' V' F hob
      split at h
      case h_2 => cases h
      rename_i e1 e2 _ _
      cases h
      subst e1 e2
      match tko, ht, hq, ho with
      | [q], ht, hq, ho =>
        match msx, ho with
        | [m], ho =>
          obtain ⟨o', a⟩ := q
          simp at ht
          subst ht
          have ha := hq (o', a) (by simp)
          simp only at ha
          rw [hob] at ha; cases ha
          obtain ⟨b, mm, hν, hm, hF⟩ := ho.1
          subst hm
          have hv := rep_hnd hs hν
          subst hv
          have hv0 : v0 = .map (some b) := by
            cases h0 with
            | hnd _ _ h0 _ =>
              have := hx _ _ h0
              rw [hν] at this; exact (Option.some.inj this).symm
          subst hv0
          exact ⟨_, .map hF, Nilx.refl _⟩
  | .ptr ty pk, i, o, s, t, t0, tk, fz, v0, v1, m0, nx, nxi, osi, tko, msx, hL, hi, hosi, hok, h0, hs, hlo, h, ht, hq, ho, hf => by
    simp only [back] at h
    split at h
    case h_2 => cases h
    rename_i o1 o2
    cases hb : Nat.beq o1 o2 with
    | false => rw [hb] at h; cases h
    | true =>
      rw [hb] at h
      have hb := Nat.eq_of_beq_eq_true hb
      subst hb
      simp only [cond_true] at h
      split at h
      case h_2 => cases h
      rename_i ty0' l0 ty' l hos hob
      cases hb : Nat.beq ty ty' with
      | false => rw [hb] at h; cases h
      | true =>
        rw [hb] at h
        have hb := Nat.eq_of_beq_eq_true hb
        subst hb
        simp only [cond_true] at h
        split at h
        case h_2 => cases h
        rename_i ts a b hg
        cases h
        obtain ⟨ty0, ts0, cs, a', rfl, rfl, hi', rfl⟩ := inst_ref hi
        have h1 := hosi _ (List.mem_cons_self ..)
        simp only at h1
        rw [hos] at h1; cases h1
        obtain ⟨b0, cs', hν0, hrow0, hok0⟩ := hor0 _ _ _ hos
        cases hL with
        | @ptr _ _ b2 cs0 m0 hL h1 =>
          obtain ⟨b3, hb3, hν3⟩ := rep_ref0 h0
          cases hb3
          rw [hν0] at hν3; cases hν3
          have he := blk_inj hok0 (hok _ (List.mem_cons_self ..)) rfl
          subst he
          obtain ⟨b4, hb4, hν4⟩ := rep_ref0 hs
          subst hb4
          rw [hx _ _ hν0] at hν4; cases hν4
          match tko, ht, hq, ho with
          | q :: tko, ht, hq, ho =>
            match msx, ho with
            | m :: msx, ho =>
              obtain ⟨o', ao⟩ := q
              injection ht with h1 h2
              simp only at h1
              subst h1
              have ha := hq (o', ao) (by simp)
              simp only at ha
              rw [hob] at ha; cases ha
              obtain ⟨b', cs2, hν, hm, hrow⟩ := ho.1
              subst hm
              rw [hx _ _ hν0] at hν; cases hν
              obtain ⟨m', hl, hxx⟩ := backs_ok hD hor hor0 hlk hx (pk := pk) hL hi' (fun q hq => hosi q (by simp [hq])) (fun q hq => hok q (by simp [hq])) hrow0.1 hrow0.2.1 hrow.1 hrow.2.1 (fun j hj => by
                have h5 := resL_lk (g := lkc o') (k := 0) hj
                rw [Nat.zero_add] at h5
                rw [h5, hlk _ _ _ hos j]
                have hjl : j < l0.length := by
                  rw [← hrow0.1]
                  have := backs_len hg
                  rw [← hrow0.1] at this
                  rw [this]; exact lt_of_getq h5
                rw [List.getD_eq_getElem?_getD, List.getElem?_eq_getElem hjl]; rfl) hg h2 (fun q hq' => hq q (by simp [hq'])) ho.2 hf
              exact ⟨_, .ptr hl hrow.2.2, Nilx.append (Nilx.refl [_]) hxx⟩
  | .agg pk, i, o, s, t, t0, tk, fz, v0, v1, m0, nx, nxi, osi, tko, msx, hL, hi, hosi, hok, h0, hs, hlo, h, ht, hq, ho, hf => by
    simp only [back] at h; cases h
theorem backs_ok (hD : D.Ok) (hor : ∀ o a, ob o = some a → ORep D ν σ lkc o a (oh o)) (hor0 : ∀ o ty l, os o = some (.cells ty l) → ∃ b cs, ν0 o = some (.pointer (some ⟨b, 0, none⟩)) ∧ RowS D ν0 σ0 cs l ∧ (blk b ty cs).ok w0)
    (hlk : ∀ o ty l, os o = some (.cells ty l) → ∀ j, lkc o j = l.getD j .dead) (hx : Ext ν0 ν) : ∀ {pk : List (PK S)} {is l ss : List (SV S)} {ts t0s : List (Tr S)} {tk fz : List Nat} {vs0 vs1 : List Value} {m0 : List HObj} {nx nxi : Nat} {osi tko : List (Nat × AO S)} {msx : List HObj},
    LayL D σ0 t0s vs0 m0 → insts D t0s nx = some (is, osi, nxi) → (∀ q ∈ osi, os q.1 = some q.2) → (∀ q ∈ m0, q.ok w0) → vs0.length = is.length → (∀ (j : Nat) v s, vs0[j]? = some v → is[j]? = some s → SRep D ν0 σ0 v s) →
    vs1.length = ss.length → (∀ (j : Nat) v s, vs1[j]? = some v → ss[j]? = some s → SRep D ν σ v s) → (∀ (j : Nat), l[j]? = some .lk → ss[j]? = is[j]?) → backs ob os lkc pk is l ss = some (ts, tk, fz) →
    tko.map (·.1) = tk → (∀ q ∈ tko, ob q.1 = some q.2) → Objs D ν σ lkc tko msx → (∀ o e T l v, o ∈ fz → ob o = some (.vec e T l) → ν o = some v → RepF D σ v (.sl T l)) → ∃ m', LayBL D σ t0s ts vs0 m0 vs1 m' ∧ Nilx msx m'
  | [], is, l, ss, ts, t0s, tk, fz, vs0, vs1, m0, nx, nxi, osi, tko, msx, hL, hi, hosi, hok, hl0, h0, hl1, hs, hlo, hb, ht, hq, ho, hf => by
    cases is with
    | cons => cases hb
    | nil =>
      cases l with
      | cons => cases hb
      | nil =>
        cases ss with
        | cons => cases hb
        | nil =>
          cases hb
          have := tko_nil ht ho
          subst this
          have h2 := List.eq_nil_of_length_eq_zero hl0
          subst h2
          have h3 := List.eq_nil_of_length_eq_zero hl1
          subst h3
          cases hL
          exact ⟨[], .nil, Nilx.refl _⟩
  | p :: pk, is, l, ss, ts, t0s, tk, fz, vs0, vs1, m0, nx, nxi, osi, tko, msx, hL, hi, hosi, hok, hl0, h0, hl1, hs, hlo, hb, ht, hq, ho, hf => by
    cases is with
    | nil => cases hb
    | cons i is =>
      cases l with
      | nil => cases hb
      | cons o l =>
        cases ss with
        | nil => cases hb
        | cons s ss =>
          cases hL with
          | nil => cases hl0
          | @cons t0 t0s v0 vs0 a0 m0 hL hLL =>
            cases vs1 with
            | nil => cases hl1
            | cons v1 vs1 =>
              simp only [backs] at hb
              split at hb
              case h_2 => cases hb
              rename_i t a b ts' a' b' hb1 hb2
              cases hb
              simp only [insts] at hi
              split at hi
              case h_2 => cases hi
              rename_i i' osa nx1 hi1
              split at hi
              case h_2 => cases hi
              rename_i is' osb nx2 hi2
              cases hi
              obtain ⟨tko1, tko2, rfl, ht1, ht2⟩ := List.map_eq_append_iff.1 ht
              obtain ⟨m1, m2, rfl, ho1, ho2⟩ := ho.split
              obtain ⟨x1, hB1, hx1⟩ := back_ok hD hor hor0 hlk hx (pk := p) hL hi1 (fun q hq => hosi q (by simp [hq])) (fun q hq => hok q (by simp [hq])) (h0 0 v0 i rfl rfl) (hs 0 v1 s rfl rfl) (fun h => by
                subst h
                have := hlo 0 rfl
                simpa using this) hb1 ht1 (fun q hq' => hq q (by simp [hq'])) ho1 (fun o e T l v hm => hf o e T l v (by simp [hm]))
              obtain ⟨x2, hB2, hx2⟩ := backs_ok hD hor hor0 hlk hx (pk := pk) hLL hi2 (fun q hq => hosi q (by simp [hq])) (fun q hq => hok q (by simp [hq])) (by simpa using hl0) (fun j v s hj hk => h0 (j + 1) v s (by simpa using hj) (by simpa using hk))
                (by simpa using hl1) (fun j v s hj hk => hs (j + 1) v s (by simpa using hj) (by simpa using hk)) (fun j hj => by simpa using hlo (j + 1) (by simpa using hj)) hb2 ht2 (fun q hq' => hq q (by simp [hq'])) ho2 (fun o e T l v hm => hf o e T l v (by simp [hm]))
              exact ⟨_, .cons hB1 hB2, Nilx.append hx1 hx2⟩
end

/-- The arguments that come back, where the function ends. -/
theorem backT_ok (hD : D.Ok) (hor : ∀ o a, ob o = some a → ORep D ν σ lkc o a (oh o)) (hor0 : ∀ o ty l, os o = some (.cells ty l) → ∃ b cs, ν0 o = some (.pointer (some ⟨b, 0, none⟩)) ∧ RowS D ν0 σ0 cs l ∧ (blk b ty cs).ok w0)
    (hlk : ∀ o ty l, os o = some (.cells ty l) → ∀ j, lkc o j = l.getD j .dead) (hx : Ext ν0 ν) (hsub : Sub σ0 σ) : ∀ {pk : List (PK S)} {is : List (SV S)} {ts t0s : List (Tr S)} {tk fz : List Nat} {vs : List Value} {m0 : List HObj} {nx nxi : Nat} {osi tko : List (Nat × AO S)} {msx : List HObj},
    LayL D σ0 t0s vs m0 → insts D t0s nx = some (is, osi, nxi) → (∀ q ∈ osi, os q.1 = some q.2) → (∀ q ∈ m0, q.ok w0) → vs.length = is.length → (∀ (j : Nat) v s, vs[j]? = some v → is[j]? = some s → SRep D ν0 σ0 v s) → backT ob os lkc pk is = some (ts, tk, fz) →
    tko.map (·.1) = tk → (∀ q ∈ tko, ob q.1 = some q.2) → Objs D ν σ lkc tko msx → (∀ o e T l v, o ∈ fz → ob o = some (.vec e T l) → ν o = some v → RepF D σ v (.sl T l)) → ∃ m', LayT D σ t0s ts vs m0 m' ∧ Nilx msx m' := by
  intro pk
  induction pk with
  | nil =>
    intro is ts t0s tk fz vs m0 nx nxi osi tko msx hL hi hosi hok hl0 h0 hb ht hq ho hf
    cases is with
    | cons => cases hb
    | nil =>
      cases hb
      have := tko_nil ht ho
      subst this
      have h2 := List.eq_nil_of_length_eq_zero hl0
      subst h2
      cases hL
      exact ⟨[], .nil, Nilx.refl _⟩
  | cons p pk ih =>
    intro is ts t0s tk fz vs m0 nx nxi osi tko msx hL hi hosi hok hl0 h0 hb ht hq ho hf
    cases is with
    | nil => cases p <;> cases hb
    | cons i is =>
      cases hL with
      | nil => cases hl0
      | @cons t0 t0s v0 vs0 a0 m0 hL hLL =>
        simp only [insts] at hi
        split at hi
        case h_2 => cases hi
        rename_i i' osa nx1 hi1
        split at hi
        case h_2 => cases hi
        rename_i is' osb nx2 hi2
        cases hi
        have rest : ∀ {ts : List (Tr S)} {tk fz : List Nat} {tko : List (Nat × AO S)} {msx : List HObj}, backT ob os lkc pk is = some (ts, tk, fz) → tko.map (·.1) = tk → (∀ q ∈ tko, ob q.1 = some q.2) → Objs D ν σ lkc tko msx →
            (∀ o e T l v, o ∈ fz → ob o = some (.vec e T l) → ν o = some v → RepF D σ v (.sl T l)) → ∃ m', LayT D σ t0s ts vs0 m0 m' ∧ Nilx msx m' := fun hb ht hq ho hf =>
          ih hLL hi2 (fun q hq => hosi q (by simp [hq])) (fun q hq => hok q (by simp [hq])) (by simpa using hl0) (fun j v s hj hk => h0 (j + 1) v s (by simpa using hj) (by simpa using hk)) hb ht hq ho hf
        have plain : backT ob os lkc (p :: pk) (i :: is) = (match backT ob os lkc pk is with
            | some (ts, a, b) => some (.same :: ts, a, b)
            | none => none) → ∃ m', LayT D σ (t0 :: t0s) ts (v0 :: vs0) (a0 ++ m0) m' ∧ Nilx msx m' := by
          intro he
          rw [he] at hb
          split at hb
          case h_2 => cases hb
          rename_i ts' a b hb'
          cases hb
          obtain ⟨m', h1, h2⟩ := rest hb' ht hq ho hf
          exact ⟨m', .skip h1, h2⟩
        have keep : backT ob os lkc (p :: pk) (i :: is) = (match back ob os lkc p i .dead i, backT ob os lkc pk is with
            | some (t, a, b), some (ts, a', b') => some (t :: ts, a ++ a', b ++ b')
            | _, _ => none) → ∃ m', LayT D σ (t0 :: t0s) ts (v0 :: vs0) (a0 ++ m0) m' ∧ Nilx msx m' := by
          intro he
          rw [he] at hb
          split at hb
          case h_2 => cases hb
          rename_i t a b ts' a' b' hb1 hb2
          cases hb
          obtain ⟨tko1, tko2, rfl, ht1, ht2⟩ := List.map_eq_append_iff.1 ht
          obtain ⟨m1, m2, rfl, ho1, ho2⟩ := ho.split
          obtain ⟨x1, hB1, hx1⟩ := back_ok hD hor hor0 hlk hx (pk := p) hL hi1 (fun q hq => hosi q (by simp [hq])) (fun q hq => hok q (by simp [hq])) (h0 0 v0 i rfl rfl) ((h0 0 v0 i rfl rfl).mono hx hsub) (fun h => by cases h) hb1 ht1 (fun q hq' => hq q (by simp [hq'])) ho1 (fun o e T l v hm => hf o e T l v (by simp [hm]))
          obtain ⟨x2, hB2, hx2⟩ := rest hb2 ht2 (fun q hq' => hq q (by simp [hq'])) ho2 (fun o e T l v hm => hf o e T l v (by simp [hm]))
          exact ⟨_, .keep hB1 hB2, Nilx.append hx1 hx2⟩
        cases p with
        | v => exact plain rfl
        | c => exact plain rfl
        | sl T => exact plain rfl
        | el T => exact plain rfl
        | own e T => exact plain rfl
        | agg l => exact plain rfl
        | map K V => exact keep rfl
        | ptr ty l => exact keep rfl
#print axioms backT_ok
end Go.Fx
