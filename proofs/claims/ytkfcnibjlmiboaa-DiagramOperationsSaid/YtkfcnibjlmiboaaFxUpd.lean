/- What is handed to a call becomes part of a state; what comes back is put where it was. Conditions: those in the statements. -/
import Derived.Test.YtkfcnibjlmiboaaFxLay
namespace Go.Fx
open Go Go.RowKit Go.Fl Go.Fl.Lk
variable {S : Sig} {P : Program} {D : Shp S} {ν ν' ν0 ν1 : Nm} {σ τ σ0 σ1 : Hv} {n : Nat} {f : Fr}
variable {w w0 : World} {cx : Cx} {ro : Ro S} {st : AS S} {ms : List HObj} {ob os : Nat → Option (AO S)} {lkc : Nat → Nat → SV S} {oh : Nat → HObj}

theorem resL_at {g : Nat → SV S} : ∀ {l : List (SV S)} {k i : Nat}, (resL g k l)[i]? = (l[i]?).map (res1 (g (k + i)))
  | [], _, _ => by simp [resL]
  | s :: l, k, 0 => by rw [resL_cons]; simp
  | s :: l, k, i + 1 => by
    rw [resL_cons, List.getElem?_cons_succ, resL_at, List.getElem?_cons_succ]
    congr 3; omega
theorem res1_ne {x s : SV S} (h : s ≠ .lk) : res1 x s = s := by cases s <;> first | rfl | exact absurd rfl h
theorem res1_self {s : SV S} : res1 s s = s := by cases s <;> rfl
theorem blk_inj {b b' T T' : Nat} {cs cs' : List Value} (h : (blk b T cs).ok w) (h' : (blk b' T' cs').ok w) (hb : b = b') : cs = cs' := by
  subst hb
  have h1 := blk_ok h
  rw [blk_ok h'] at h1
  injection h1 with h1
  injection h1 with h1
  exact (congrArg Array.toList h1).symm

theorem rep_ref0 {v : Value} {o : Nat} (h : SRep D ν σ v (.ref o 0)) : ∃ b, v = .pointer (some ⟨b, 0, none⟩) ∧ ν o = some v := by
  cases h with
  | ref _ _ b h => exact ⟨b, rfl, h⟩

mutual
theorem inst_ok : ∀ {t : Tr S} {v : Value} {ms : List HObj} {nx nx' : Nat} {s : SV S} {os : List (Nat × AO S)} {ν : Nm}, Lay D σ t v ms → inst D t nx = some (s, os, nx') → (∀ o, nx ≤ o → ν o = none) →
    ∃ ν', Ext ν ν' ∧ (∀ o, nx' ≤ o → ν' o = none) ∧ SRep D ν' σ v s ∧ Objs D ν' σ lkc os ms ∧ nx ≤ nx' ∧ (∀ q ∈ os, nx ≤ q.1 ∧ q.1 < nx') ∧ (os.map (·.1)).Nodup
  | .f x, v, ms, nx, nx', s, os, ν, hl, hi, hf => by
    cases hl with
    | f h => cases hi; exact ⟨ν, Ext.refl ν, hf, .f h, trivial, Nat.le_refl _, by simp, by simp⟩
  | .same, _, _, _, _, _, _, _, _, hi, _ => by cases hi
  | .vec e T l, v, ms, nx, nx', s, os, ν, hl, hi, hf => by
    cases hl with
    | vec hE hlen h1 =>
      cases hi
      refine ⟨ν.add nx v, Nm.add_ext (hf nx (Nat.le_refl _)), fun o ho => ?_, .hnd nx v Nm.add_self h1, ⟨⟨v, _, Nm.add_self, rfl, hE, hlen⟩, trivial⟩, Nat.le_succ _, by simp, by simp⟩
      unfold Nm.add; rw [if_neg (by omega)]; exact hf o (by omega)
  | .arr T N l, v, ms, nx, nx', s, os, ν, hl, hi, hf => by
    cases hl with
    | arr hN hE => cases hi; exact ⟨ν, Ext.refl ν, hf, .arr _ T N l hN hE.1 hE.2, trivial, Nat.le_refl _, by simp, by simp⟩
  | .map K V F, v, ms, nx, nx', s, os, ν, hl, hi, hf => by
    cases hl with
    | map hF =>
      cases hi
      refine ⟨ν.add nx _, Nm.add_ext (hf nx (Nat.le_refl _)), fun o ho => ?_, .hnd nx _ Nm.add_self rfl, ⟨⟨_, _, Nm.add_self, rfl, hF⟩, trivial⟩, Nat.le_succ _, by simp, by simp⟩
      unfold Nm.add; rw [if_neg (by omega)]; exact hf o (by omega)
  | .ptr ty ts, v, ms, nx, nx', s, os, ν, hl, hi, hf => by
    cases hl with
    | @ptr _ _ b cs ms hl h1 =>
      simp only [inst] at hi
      split at hi
      case h_2 => cases hi
      rename_i ss os' nx2 hi'
      cases hi
      obtain ⟨ν', hx, hfr, hlen, hs, ho, hle, hnm, hnd⟩ := insts_ok (ν := ν.add nx (.pointer (some ⟨b, 0, none⟩))) hl hi' (fun o ho => by unfold Nm.add; rw [if_neg (by omega)]; exact hf o (by omega))
      have hself := hx _ _ (Nm.add_self (ν := ν) (o := nx) (v := .pointer (some ⟨b, 0, none⟩)))
      have hrow : RowS D ν' σ cs ss := ⟨hlen, hs, h1⟩
      refine ⟨ν', (Nm.add_ext (hf nx (Nat.le_refl _))).trans hx, hfr, .ref nx 0 b hself, ⟨⟨b, cs, hself, rfl, by rw [resL_id hrow]; exact hrow⟩, ho⟩, by omega, fun q hq => ?_, ?_⟩
      · rcases List.mem_cons.1 hq with rfl | hq
        · exact ⟨Nat.le_refl _, by simp only; omega⟩
        · have := hnm q hq; omega
      · rw [List.map_cons, List.nodup_cons]
        refine ⟨fun hm => ?_, hnd⟩
        obtain ⟨q, hq, he⟩ := List.mem_map.1 hm
        have := hnm q hq
        simp only at he
        omega
  | .el T x, v, ms, nx, nx', s, os, ν, hl, hi, hf => by
    cases hl with
    | el hr =>
      cases hi
      have hS := hr.toS (ν := ν)
      exact ⟨ν, Ext.refl ν, hf, .agg _ _ hS.1 hS.2.1 hS.2.2, trivial, Nat.le_refl _, by simp, by simp⟩
  | .agg ts, v, ms, nx, nx', s, os, ν, hl, hi, hf => by
    cases hl with
    | agg hl h1 =>
      simp only [inst] at hi
      split at hi
      case h_2 => cases hi
      rename_i ss os' nx2 hi'
      cases hi
      obtain ⟨ν', hx, hfr, hlen, hs, ho, hr⟩ := insts_ok hl hi' hf
      exact ⟨ν', hx, hfr, .agg _ _ hlen hs h1, ho, hr⟩
theorem insts_ok : ∀ {ts : List (Tr S)} {vs : List Value} {ms : List HObj} {nx nx' : Nat} {ss : List (SV S)} {os : List (Nat × AO S)} {ν : Nm}, LayL D σ ts vs ms → insts D ts nx = some (ss, os, nx') → (∀ o, nx ≤ o → ν o = none) →
    ∃ ν', Ext ν ν' ∧ (∀ o, nx' ≤ o → ν' o = none) ∧ vs.length = ss.length ∧ (∀ (j : Nat) v s, vs[j]? = some v → ss[j]? = some s → SRep D ν' σ v s) ∧ Objs D ν' σ lkc os ms ∧ nx ≤ nx' ∧ (∀ q ∈ os, nx ≤ q.1 ∧ q.1 < nx') ∧ (os.map (·.1)).Nodup
  | [], vs, ms, nx, nx', ss, os, ν, hl, hi, hf => by
    cases hl; cases hi
    exact ⟨ν, Ext.refl ν, hf, rfl, fun j v s hj => by simp at hj, trivial, Nat.le_refl _, by simp, by simp⟩
  | t :: ts, vs, ms, nx, nx', ss, os, ν, hl, hi, hf => by
    cases hl with
    | cons h h' =>
      simp only [insts] at hi
      split at hi
      case h_2 => cases hi
      rename_i s a nx1 hi1
      split at hi
      case h_2 => cases hi
      rename_i r b nx2 hi2
      cases hi
      obtain ⟨ν1, hx1, hf1, hs1, ho1, hle1, hnm1, hnd1⟩ := inst_ok h hi1 hf
      obtain ⟨ν2, hx2, hf2, hlen, hs2, ho2, hle2, hnm2, hnd2⟩ := insts_ok h' hi2 hf1
      refine ⟨ν2, hx1.trans hx2, hf2, by simp [hlen], fun j v s hj hk => ?_, (ho1.mono hx2 (Sub.refl _)).append ho2, by omega, fun q hq => ?_, ?_⟩
      · cases j with
        | zero => simp at hj hk; subst hj hk; exact hs1.mono hx2 (Sub.refl _)
        | succ j => exact hs2 j v s (by simpa using hj) (by simpa using hk)
      · rcases List.mem_append.1 hq with hq | hq
        · have := hnm1 q hq; omega
        · have := hnm2 q hq; omega
      · rw [List.map_append, List.nodup_append]
        refine ⟨hnd1, hnd2, fun x hx y hy he => ?_⟩
        obtain ⟨q, hq, rfl⟩ := List.mem_map.1 hx
        obtain ⟨q', hq', rfl⟩ := List.mem_map.1 hy
        have h1 := hnm1 q hq
        have h2 := hnm2 q' hq'
        omega
end

mutual
theorem upd1_ok (hor : ∀ o a, ob o = some a → ORep D ν σ lkc o a (oh o) ∧ (oh o).ok w) : ∀ {pk : PK S} {o s : SV S} {t0 t : Tr S} {v0 v1 : Value} {m0 m : List HObj} {tk fz : List Nat} {nx nx' : Nat} {s' : SV S} {os : List (Nat × AO S)} {ν1 : Nm},
    SRep D ν σ v0 s → gath D ob lkc pk s = some (t0, tk, fz) → LayB D σ1 t0 t v0 m0 v1 m → (∀ q ∈ m0, q.ok w) → upd1 ob lkc pk o s t nx = some (s', os, nx') → Ext ν ν1 → (∀ k, nx ≤ k → ν1 k = none) →
    ∃ ν2, Ext ν1 ν2 ∧ (∀ k, nx' ≤ k → ν2 k = none) ∧ SRep D ν2 σ1 v1 (res1 s s') ∧ (s' = .lk → o = .lk) ∧ Objs D ν2 σ1 lkc os m
  | .c, o, s, t0, t, v0, v1, m0, m, tk, fz, nx, nx', s', os, ν1, hs, hg, hB, hok, hu, hx, hf => by
    simp only [gath] at hg
    cases hc : toC s with
    | none => rw [hc] at hg; cases hg
    | some x =>
      rw [hc] at hg; cases hg
      simp only [upd1] at hu
      split at hu
      case h_2 => cases hu
      cases hB with
      | v h => cases h
      | same h =>
        cases h with
        | f h =>
          split at hu
          · cases hu
            exact ⟨ν1, Ext.refl _, hf, toC_back hc h, fun _ => rfl, trivial⟩
          · rw [hc] at hu; cases hu
            exact ⟨ν1, Ext.refl _, hf, .f h, (fun h => by cases h), trivial⟩
  | .v, o, s, t0, t, v0, v1, m0, m, tk, fz, nx, nx', s', os, ν1, hs, hg, hB, hok, hu, hx, hf => by
    simp only [upd1] at hu
    split at hu
    · cases hu
    · cases hu
      cases hB with
      | v h => cases h with | f h => exact ⟨ν1, Ext.refl _, hf, .f h, (fun h => by cases h), trivial⟩
    · cases hu
  | .sl T, o, s, t0, t, v0, v1, m0, m, tk, fz, nx, nx', s', os, ν1, hs, hg, hB, hok, hu, hx, hf => by
    simp only [upd1] at hu
    split at hu
    · cases hu
    · cases hu
      cases hB with
      | v h => cases h with | f h => exact ⟨ν1, Ext.refl _, hf, .f h, (fun h => by cases h), trivial⟩
    · cases hu
  | .el T, o, s, t0, t, v0, v1, m0, m, tk, fz, nx, nx', s', os, ν1, hs, hg, hB, hok, hu, hx, hf => by
    simp only [upd1] at hu; cases hu
  | .own e T, o, s, t0, t, v0, v1, m0, m, tk, fz, nx, nx', s', os, ν1, hs, hg, hB, hok, hu, hx, hf => by
    simp only [upd1] at hu
    split at hu
    · cases hu
    · cases hu
      cases hB with
      | v h => cases h
      | vec hE hlen h1 =>
        refine ⟨ν1.add nx v1, Nm.add_ext (hf nx (Nat.le_refl _)), fun o ho => ?_, .hnd nx v1 Nm.add_self h1, (fun h => by cases h), ⟨⟨v1, _, Nm.add_self, rfl, hE, hlen⟩, trivial⟩⟩
        unfold Nm.add; rw [if_neg (by omega)]; exact hf o (by omega)
    · cases hu
  | .map K V, o, s, t0, t, v0, v1, m0, m, tk, fz, nx, nx', s', os, ν1, hs, hg, hB, hok, hu, hx, hf => by
    simp only [upd1] at hu
    split at hu
    case h_2 => cases hu
    rename_i k K' V' F
    cases hB with
    | v h => cases h
    | map hF =>
      cases hs with
      | hnd _ _ hν h1 =>
        have h2 : SRep D ν1 σ1 _ (SV.hnd k) := .hnd k _ (hx _ _ hν) h1
        split at hu
        · cases hu
          exact ⟨ν1, Ext.refl _, hf, h2, fun _ => rfl, ⟨⟨_, _, hx _ _ hν, rfl, hF⟩, trivial⟩⟩
        · cases hu
          exact ⟨ν1, Ext.refl _, hf, h2, (fun h => by cases h), ⟨⟨_, _, hx _ _ hν, rfl, hF⟩, trivial⟩⟩
  | .ptr ty0 pk, o, s, t0, t, v0, v1, m0, m, tk, fz, nx, nx', s', os, ν1, hs, hg, hB, hok, hu, hx, hf => by
    simp only [upd1] at hu
    split at hu
    case h_2 => cases hu
    rename_i k ty ts
    split at hu
    case h_2 => cases hu
    rename_i ty2 l hob
    split at hu
    case h_2 => cases hu
    rename_i cs os' nx2 hu'
    simp only [gath, hob] at hg
    obtain ⟨_, hg⟩ : Nat.beq ty0 ty2 = true ∧ (match gaths D ob lkc pk (resL (lkc k) 0 l) with
        | some (ts, a, b) => some (Tr.ptr ty0 ts, k :: a, b)
        | none => none) = some (t0, tk, fz) := by
      cases hb : Nat.beq ty0 ty2 with
      | true => rw [hb] at hg; exact ⟨rfl, hg⟩
      | false => rw [hb] at hg; cases hg
    split at hg
    case h_2 => cases hg
    rename_i ts0 a b hg'
    cases hg
    cases hB with
    | v h => cases h
    | @ptr _ _ _ _ b cs0 cs1 m0 ms hL h1 =>
      obtain ⟨_, hbe, hν⟩ := rep_ref0 hs
      · cases hbe
        obtain ⟨⟨b2, cs2, hν2, hoh, hrow⟩, hohok⟩ := hor k _ hob
        rw [hν] at hν2; cases hν2
        rw [hoh] at hohok
        have he := blk_inj hohok (hok (blk b ty0 cs0) (by simp)) rfl
        subst he
        obtain ⟨ν2, hx2, hf2, hl1, hl2, hs2, ho2⟩ := upds_ok hor (pk := pk) hrow.1 hrow.2.1 hg' hL (fun q hq => hok q (by simp [hq])) hu' hx hf
        have hk2 := hx2 _ _ (hx _ _ hν)
        have hrow2 : RowS D ν2 σ1 cs1 (resL (lkc k) 0 cs) := by
          refine ⟨by rw [resL_len, hl2, hl1], fun j v s hj hk => ?_, h1⟩
          rw [resL_at] at hk
          obtain ⟨sj, hsj⟩ := getq (l := cs) (k := j) (by rw [hl1, ← hl2]; exact lt_of_getq hj)
          obtain ⟨ssj, hssj⟩ := getq (l := resL (lkc k) 0 l) (k := j) (by rw [← hl2]; exact lt_of_getq hj)
          rw [hsj] at hk; cases hk
          obtain ⟨h3, h4⟩ := hs2 j v ssj sj hj hssj hsj
          by_cases hlk : sj = .lk
          · have h5 := resL_lk (g := lkc k) (k := 0) (h4 hlk)
            rw [hssj] at h5; cases h5
            exact h3
          · rw [res1_ne hlk] at h3 ⊢; exact h3
        split at hu
        · cases hu
          exact ⟨ν2, hx2, hf2, .ref k 0 b hk2, fun _ => rfl, ⟨⟨b, cs1, hk2, rfl, hrow2⟩, ho2⟩⟩
        · cases hu
          exact ⟨ν2, hx2, hf2, .ref k 0 b hk2, (fun h => by cases h), ⟨⟨b, cs1, hk2, rfl, hrow2⟩, ho2⟩⟩
  | .agg _, o, s, t0, t, v0, v1, m0, m, tk, fz, nx, nx', s', os, ν1, hs, hg, hB, hok, hu, hx, hf => by
    simp only [upd1] at hu; cases hu
theorem upds_ok (hor : ∀ o a, ob o = some a → ORep D ν σ lkc o a (oh o) ∧ (oh o).ok w) : ∀ {pk : List (PK S)} {l ss : List (SV S)} {t0s ts : List (Tr S)} {vs0 vs1 : List Value} {m0 m : List HObj} {tk fz : List Nat} {nx nx' : Nat} {cs : List (SV S)} {os : List (Nat × AO S)} {ν1 : Nm},
    vs0.length = ss.length → (∀ (j : Nat) v s, vs0[j]? = some v → ss[j]? = some s → SRep D ν σ v s) → gaths D ob lkc pk ss = some (t0s, tk, fz) → LayBL D σ1 t0s ts vs0 m0 vs1 m → (∀ q ∈ m0, q.ok w) → upds ob lkc pk l ss ts nx = some (cs, os, nx') → Ext ν ν1 → (∀ k, nx ≤ k → ν1 k = none) →
    ∃ ν2, Ext ν1 ν2 ∧ (∀ k, nx' ≤ k → ν2 k = none) ∧ cs.length = ss.length ∧ vs1.length = ss.length ∧ (∀ (j : Nat) v s s', vs1[j]? = some v → ss[j]? = some s → cs[j]? = some s' → SRep D ν2 σ1 v (res1 s s') ∧ (s' = .lk → l[j]? = some .lk)) ∧ Objs D ν2 σ1 lkc os m
  | [], l, ss, t0s, ts, vs0, vs1, m0, m, tk, fz, nx, nx', cs, os, ν1, hl, hs, hg, hB, hok, hu, hx, hf => by
    cases ss with
    | cons => cases hg
    | nil =>
      cases hg
      cases hB
      cases l with
      | cons => cases hu
      | nil =>
        cases hu
        exact ⟨ν1, Ext.refl _, hf, rfl, rfl, fun j v s s' hj => by simp at hj, trivial⟩
  | p :: pk, l, ss, t0s, ts, vs0, vs1, m0, m, tk, fz, nx, nx', cs, os, ν1, hl, hs, hg, hB, hok, hu, hx, hf => by
    cases ss with
    | nil => cases hg
    | cons s ss =>
      cases l with
      | nil => cases hu
      | cons o l =>
        simp only [gaths] at hg
        split at hg
        case h_2 => cases hg
        rename_i t0 a b ts0 a' b' hg1 hg2
        cases hg
        cases hB with
        | @cons _ t _ ts v0 v1 vs0 vs1 a0 am m0 m hB hBL =>
          simp only [upds] at hu
          split at hu
          case h_2 => cases hu
          rename_i s' x nx1 hu1
          split at hu
          case h_2 => cases hu
          rename_i r y nx2 hu2
          cases hu
          obtain ⟨ν2, hx2, hf2, hr2, hlk2, ho2⟩ := upd1_ok hor (pk := p) (hs 0 v0 s rfl rfl) hg1 hB (fun q hq => hok q (by simp [hq])) hu1 hx hf
          obtain ⟨ν3, hx3, hf3, hl1, hl2, hr3, ho3⟩ := upds_ok hor (pk := pk) (by simpa using hl) (fun j v s hj hk => hs (j + 1) v s (by simpa using hj) (by simpa using hk)) hg2 hBL (fun q hq => hok q (by simp [hq])) hu2 (hx.trans hx2) hf2
          refine ⟨ν3, hx2.trans hx3, hf3, by simp [hl1], by simp [hl2], fun j v s1 s2 hj hk hm => ?_, (ho2.mono hx3 (Sub.refl _)).append ho3⟩
          cases j with
          | zero => simp at hj hk hm; subst hj hk hm; exact ⟨hr2.mono hx3 (Sub.refl _), fun h => by rw [hlk2 h]; rfl⟩
          | succ j =>
            obtain ⟨h1, h2⟩ := hr3 j v s1 s2 (by simpa using hj) (by simpa using hk) (by simpa using hm)
            exact ⟨h1, fun h => by simpa using h2 h⟩
end

/-- The arguments that come back, where the call was. -/
theorem updT_ok (hor : ∀ o a, ob o = some a → ORep D ν σ lkc o a (oh o) ∧ (oh o).ok w) : ∀ {pk : List (PK S)} {ss : List (SV S)} {t0s ts : List (Tr S)} {vs : List Value} {m0 m : List HObj} {tk fz : List Nat} {nx nx' : Nat} {os : List (Nat × AO S)} {ν1 : Nm},
    vs.length = ss.length → (∀ (j : Nat) v s, vs[j]? = some v → ss[j]? = some s → SRep D ν σ v s) → gaths D ob lkc pk ss = some (t0s, tk, fz) → LayT D σ1 t0s ts vs m0 m → (∀ q ∈ m0, q.ok w) → updT ob lkc pk ss ts nx = some (os, nx') → Ext ν ν1 → (∀ k, nx ≤ k → ν1 k = none) →
    ∃ ν2, Ext ν1 ν2 ∧ (∀ k, nx' ≤ k → ν2 k = none) ∧ Objs D ν2 σ1 lkc os m := by
  intro pk
  induction pk with
  | nil =>
    intro ss t0s ts vs m0 m tk fz nx nx' os ν1 hl hs hg hT hok hu hx hf
    cases ss with
    | cons => cases hg
    | nil =>
      cases hg
      cases hT
      cases hu
      exact ⟨ν1, Ext.refl _, hf, trivial⟩
  | cons p pk ih =>
    intro ss t0s ts vs m0 m tk fz nx nx' os ν1 hl hs hg hT hok hu hx hf
    cases ss with
    | nil => cases hg
    | cons s ss =>
      simp only [gaths] at hg
      split at hg
      case h_2 => cases hg
      rename_i t0 a b ts0 a' b' hg1 hg2
      cases hg
      have skip : ∀ {v : Value} {vs : List Value} {ts : List (Tr S)} {m0' m : List HObj}, vs.length = ss.length → (∀ (j : Nat) v' s', (v :: vs)[j]? = some v' → (s :: ss)[j]? = some s' → SRep D ν σ v' s') → LayT D σ1 ts0 ts vs m0' m → (∀ q ∈ m0', q.ok w) → updT ob lkc pk ss ts nx = some (os, nx') →
          ∃ ν2, Ext ν1 ν2 ∧ (∀ k, nx' ≤ k → ν2 k = none) ∧ Objs D ν2 σ1 lkc os m :=
        fun hl hs hT hok hu => ih hl (fun j v s hj hk => hs (j + 1) v s (by simpa using hj) (by simpa using hk)) hg2 hT hok hu hx hf
      have keep : ∀ {t : Tr S} {ts : List (Tr S)} {v : Value} {vs : List Value} {a0 am m0 m : List HObj}, vs.length = ss.length → (∀ (j : Nat) v' s', (v :: vs)[j]? = some v' → (s :: ss)[j]? = some s' → SRep D ν σ v' s') → LayB D σ1 t0 t v a0 v am → LayT D σ1 ts0 ts vs m0 m → (∀ q ∈ a0 ++ m0, q.ok w) →
          (match upd1 ob lkc p s s t nx with
            | some (_, a, nx') => match updT ob lkc pk ss ts nx' with
              | some (b, nx'') => some (a ++ b, nx'')
              | none => none
            | none => none) = some (os, nx') → ∃ ν2, Ext ν1 ν2 ∧ (∀ k, nx' ≤ k → ν2 k = none) ∧ Objs D ν2 σ1 lkc os (am ++ m) := by
        intro t ts v vs a0 am m0 m hl hs hB hT hok hu
        split at hu
        case h_2 => cases hu
        rename_i s' x nx1 hu1
        split at hu
        case h_2 => cases hu
        rename_i y nx2 hu2
        cases hu
        obtain ⟨ν2, hx2, hf2, _, _, ho2⟩ := upd1_ok hor (pk := p) (hs 0 v s rfl rfl) hg1 hB (fun q hq => hok q (by simp [hq])) hu1 hx hf
        obtain ⟨ν3, hx3, hf3, ho3⟩ := ih hl (fun j v s hj hk => hs (j + 1) v s (by simpa using hj) (by simpa using hk)) hg2 hT (fun q hq => hok q (by simp [hq])) hu2 (hx.trans hx2) hf2
        exact ⟨ν3, hx2.trans hx3, hf3, (ho2.mono hx3 (Sub.refl _)).append ho3⟩
      have plain : updT ob lkc (p :: pk) (s :: ss) ts nx = (match ts with | .same :: ts => updT ob lkc pk ss ts nx | _ => none) → ∃ ν2, Ext ν1 ν2 ∧ (∀ k, nx' ≤ k → ν2 k = none) ∧ Objs D ν2 σ1 lkc os m := by
        intro he
        rw [he] at hu
        cases ts with
        | nil => cases hu
        | cons t ts =>
          cases t with
          | same =>
            cases hT with
            | skip hT => exact skip (by simpa using hl) hs hT (fun q hq => hok q (by simp [hq])) hu
            | keep hB hT =>
              cases hB with
              | v h => cases h
              | same h => exact skip (by simpa using hl) hs hT (fun q hq => hok q (by simp [hq])) hu
          | _ => cases hu
      cases p with
      | v => exact plain (by cases ts with | nil => rfl | cons t ts => cases t <;> rfl)
      | c => exact plain (by cases ts with | nil => rfl | cons t ts => cases t <;> rfl)
      | sl T => exact plain (by cases ts with | nil => rfl | cons t ts => cases t <;> rfl)
      | el T => exact plain (by cases ts with | nil => rfl | cons t ts => cases t <;> rfl)
      | own e T => exact plain (by cases ts with | nil => rfl | cons t ts => cases t <;> rfl)
      | agg l => exact plain (by cases ts with | nil => rfl | cons t ts => cases t <;> rfl)
      | map K V =>
        cases hT with
        | skip hT =>
          simp only [updT, upd1] at hu
          cases s <;> cases hu
        | keep hB hT => exact keep (by simpa using hl) hs hB hT hok hu
      | ptr ty l =>
        cases hT with
        | skip hT =>
          have hu' : upd1 ob lkc (.ptr ty l) s s .same nx = none := by
            simp only [upd1]
          simp only [updT, hu'] at hu
          cases hu
        | keep hB hT => exact keep (by simpa using hl) hs hB hT hok hu
#print axioms updT_ok
end Go.Fx
