/- The parts of a state that ways and rounds change: put back. Conditions: those in the statements. -/
import Derived.Test.YtkfcnibjlmiboaaFxItems
namespace Go.Fx
open Go Go.RowKit Go.Fl Go.Fl.Lk
variable {S : Sig} {P : Program} {D : Shp S} {ν ν' ν0 : Nm} {σ τ : Hv} {n : Nat} {f : Fr}
variable {w : World} {cx : Cx} {ro : Ro S} {st : AS S} {ms : List HObj}

theorem ORep.transfer {ν₁ ν₂ ν' : Nm} {σ₁ σ : Hv} {lkc : Nat → Nat → SV S} {o : Nat} {a : AO S} {m₁ m₂ : HObj} (h1 : ORep D ν₁ σ₁ lkc o a m₁) (h2 : ORep D ν₂ σ lkc o a m₂) (hn : ∀ o v, ν₁ o = some v → ν' o = ν₂ o) : ORep D ν' σ lkc o a m₂ := by
  cases a with
  | cells ty l =>
    obtain ⟨b1, cs1, e1, _, hr1⟩ := h1
    obtain ⟨b2, cs2, e2, hm, hr2⟩ := h2
    refine ⟨b2, cs2, by rw [hn _ _ e1]; exact e2, hm, hr2.1, fun j v s hj hs => ?_, hr2.2.2⟩
    obtain ⟨u, hu⟩ := getq (l := cs1) (k := j) (by rw [hr1.1]; exact lt_of_getq hs)
    exact (hr1.2.1 j u s hu hs).transfer (hr2.2.1 j v s hj hs) hn
  | vec e T l =>
    obtain ⟨v1, xs1, e1, _⟩ := h1
    obtain ⟨v2, xs2, e2, h⟩ := h2
    exact ⟨v2, xs2, by rw [hn _ _ e1]; exact e2, h⟩
  | frz T l =>
    obtain ⟨v1, e1, _⟩ := h1
    obtain ⟨v2, e2, h⟩ := h2
    exact ⟨v2, by rw [hn _ _ e1]; exact e2, h⟩
  | arr ty T N l =>
    obtain ⟨b1, cs1, e1, _⟩ := h1
    obtain ⟨b2, cs2, e2, h⟩ := h2
    exact ⟨b2, cs2, by rw [hn _ _ e1]; exact e2, h⟩
  | map K V F =>
    obtain ⟨b1, m1, e1, _⟩ := h1
    obtain ⟨b2, m2, e2, h⟩ := h2
    exact ⟨b2, m2, by rw [hn _ _ e1]; exact e2, h⟩
  | iter K V F done cur =>
    obtain ⟨r1, b1, es1, c1, cv1, e1, _⟩ := h1
    obtain ⟨r2, b2, es2, c2, cv2, e2, h⟩ := h2
    exact ⟨r2, b2, es2, c2, cv2, by rw [hn _ _ e1]; exact e2, h⟩
theorem Objs.transfer {ν₂ ν' νe : Nm} {lkc : Nat → Nat → SV S} : ∀ {os : List (Nat × AO S)} {ms : List HObj}, (∀ q ∈ os, ∃ σ m, ORep D νe σ lkc q.1 q.2 m) → Objs D ν₂ σ lkc os ms → (∀ o v, νe o = some v → ν' o = ν₂ o) → Objs D ν' σ lkc os ms
  | [], [], _, _, _ => trivial
  | q :: os, m :: ms, h1, h2, hn => by
    obtain ⟨σ1, m1, h⟩ := h1 q (by simp)
    exact ⟨h.transfer h2.1 hn, Objs.transfer (fun q hq => h1 q (by simp [hq])) h2.2 hn⟩

theorem put_ok {kd : Kd S} {x : kd.ty} {u : Value} {hs : List HObj} {nm : Nat} {lkc : Nat → Nat → SV S} (h : PartRep D σ kd x u hs) (hn : ν nm = some u) : SRep D ν σ u (putK D nm kd x).1 ∧ Objs D ν σ lkc (putK D nm kd x).2 hs := by
  cases kd with
  | int k => obtain ⟨rfl, rfl⟩ := h; exact ⟨.f (.int _ _), trivial⟩
  | bool => obtain ⟨rfl, rfl⟩ := h; exact ⟨.f (.bool _), trivial⟩
  | str => obtain ⟨rfl, rfl⟩ := h; exact ⟨.f (.str _), trivial⟩
  | sl T => obtain ⟨h, rfl⟩ := h; exact ⟨.f h, trivial⟩
  | own e T =>
    obtain ⟨xs, rfl, h1, h2, h3⟩ := h
    exact ⟨.hnd nm u hn h3, ⟨u, xs, hn, rfl, h1, h2⟩, trivial⟩
  | el T =>
    obtain ⟨cs, rfl, h1, rfl⟩ := h
    have := h1.toS (ν := ν)
    exact ⟨.agg cs _ this.1 this.2.1 this.2.2, trivial⟩
  | map K V =>
    obtain ⟨b, m, rfl, rfl, h1⟩ := h
    exact ⟨.hnd nm _ hn rfl, ⟨b, m, hn, rfl, h1⟩, trivial⟩
  | arr ty T N =>
    obtain ⟨b, cs, rfl, rfl, h1, h2⟩ := h
    exact ⟨.ref nm 0 b hn, ⟨b, cs, hn, rfl, h1, h2⟩, trivial⟩
  | iter K V =>
    obtain ⟨r, b, es, clock, cv, rfl, rfl, h1, h2, h3, h4, h5, h6⟩ := h
    exact ⟨.ref nm 0 r hn, ⟨r, b, es, clock, cv, hn, rfl, h1, h2, h3, h4, h5, h6, by simp⟩, trivial⟩
theorem putK_lk {kd : Kd S} {x : kd.ty} {nm : Nat} : (putK D nm kd x).1 ≠ .lk := by cases kd <;> simp [putK]

/-- All parts are put back. -/
theorem putAll_ok {nm0 : Nat} {lkc : Nat → Nat → SV S} : ∀ {l : List (Item S)} {xs : HL l} {hs ams : List HObj} {nm : Nat} {νk : Nm} {a : Acc S}, Parts D ν σ f w l xs hs → nm0 ≤ nm → objLt nm0 l = true → (∀ o, nm ≤ o → νk o = none) → (∀ o, o < nm0 → νk o = ν o) →
    (∀ j, SRep D νk σ (f j) (a.slots j)) → Objs D νk σ lkc a.objs ams → (∀ q ∈ a.cells, q.2 ≠ .lk ∧ ∃ u, cellV ν w q.1.1 q.1.2 = some u ∧ SRep D νk σ u q.2) →
    ∃ νf ams', Ext νk νf ∧ (∀ o, nm + l.length ≤ o → νf o = none) ∧ (∀ o, o < nm0 → νf o = ν o) ∧ (hs ++ ams).Perm ams' ∧ (∀ j, SRep D νf σ (f j) ((putAll D l xs nm a).slots j)) ∧ Objs D νf σ lkc (putAll D l xs nm a).objs ams' ∧
      ∀ q ∈ (putAll D l xs nm a).cells, q.2 ≠ .lk ∧ ∃ u, cellV ν w q.1.1 q.1.2 = some u ∧ SRep D νf σ u q.2 := by
  intro l
  induction l with
  | nil =>
    intro xs hs ams nm νk a hp _ _ hfr hag h1 h2 h3
    have hp' : hs = [] := hp
    subst hp'
    exact ⟨νk, ams, Ext.refl _, by simpa using hfr, hag, .refl _, h1, h2, h3⟩
  | cons it l ih =>
    intro xs hs ams nm νk a hp hle hlt hfr hag h1 h2 h3
    obtain ⟨pl, kd⟩ := it
    obtain ⟨x, xs⟩ := xs
    have hnk : νk nm = none := hfr nm (Nat.le_refl _)
    have hfr' : ∀ u : Value, ∀ o, nm + 1 ≤ o → (νk.add nm u) o = none := by
      intro u o ho
      rcases hq : (νk.add nm u) o with _ | v
      · rfl
      · rcases Nm.add_new o v hq with h4 | h4
        · rw [hfr o (by omega)] at h4; cases h4
        · omega
    have hag' : ∀ u : Value, ∀ o, o < nm0 → (νk.add nm u) o = ν o := by
      intro u o ho
      rw [← hag o ho]
      unfold Nm.add
      rw [if_neg (by omega)]
    have elen : nm + 1 + l.length = nm + (l.length + 1) := by omega
    cases pl with
    | slot j =>
      obtain ⟨hs1, hs2, rfl, hp1, hp2⟩ := hp
      have hadd := Nm.add_ext (v := f j) hnk
      have hput := put_ok (lkc := lkc) hp1 (Nm.add_self (ν := νk) (o := nm) (v := f j))
      obtain ⟨νf, ams', e1, e2, e3, e4, e5, e6, e7⟩ := ih (ams := hs1 ++ ams) (nm := nm + 1) (νk := νk.add nm (f j)) (a := { a with slots := updS a.slots j (putK D nm kd x).1, objs := (putK D nm kd x).2 ++ a.objs }) hp2 (by omega) hlt (hfr' _) (hag' _)
        (fun j' => by
          show SRep D _ σ (f j') (updS a.slots j (putK D nm kd x).1 j')
          unfold updS
          cases hb : Nat.beq j' j with
          | true =>
            have := Nat.eq_of_beq_eq_true hb
            subst this
            exact hput.1
          | false => exact (h1 j').mono hadd (Sub.refl _))
        (hput.2.append (h2.mono hadd (Sub.refl _))) (fun q hq => ⟨(h3 q hq).1, by obtain ⟨u, hu, hr⟩ := (h3 q hq).2; exact ⟨u, hu, hr.mono hadd (Sub.refl _)⟩⟩)
      refine ⟨νf, ams', hadd.trans e1, by rw [List.length_cons, ← elen]; exact e2, e3, ?_, e5, e6, e7⟩
      refine List.Perm.trans ?_ e4
      rw [List.append_assoc]
      rw [← List.append_assoc, ← List.append_assoc]
      exact List.Perm.append_right ams List.perm_append_comm
    | cell o i =>
      obtain ⟨hs1, hs2, u, rfl, hu, hp1, hp2⟩ := hp
      simp only [objLt] at hlt
      obtain ⟨_, hlt⟩ := and_b hlt
      have hadd := Nm.add_ext (v := u) hnk
      have hput := put_ok (lkc := lkc) hp1 (Nm.add_self (ν := νk) (o := nm) (v := u))
      obtain ⟨νf, ams', e1, e2, e3, e4, e5, e6, e7⟩ := ih (ams := hs1 ++ ams) (nm := nm + 1) (νk := νk.add nm u) (a := { a with cells := ((o, i), (putK D nm kd x).1) :: a.cells, objs := (putK D nm kd x).2 ++ a.objs }) hp2 (by omega) hlt (hfr' _) (hag' _)
        (fun j' => (h1 j').mono hadd (Sub.refl _))
        (hput.2.append (h2.mono hadd (Sub.refl _))) (fun q hq => by
          rcases List.mem_cons.1 hq with rfl | hq
          · exact ⟨putK_lk, u, hu, hput.1⟩
          · exact ⟨(h3 q hq).1, by obtain ⟨u, hu, hr⟩ := (h3 q hq).2; exact ⟨u, hu, hr.mono hadd (Sub.refl _)⟩⟩)
      refine ⟨νf, ams', hadd.trans e1, by rw [List.length_cons, ← elen]; exact e2, e3, ?_, e5, e6, e7⟩
      refine List.Perm.trans ?_ e4
      rw [← List.append_assoc]
      exact List.Perm.append_right ams List.perm_append_comm
    | obj o =>
      obtain ⟨hs1, hs2, u, rfl, hu, hp1, hp2⟩ := hp
      simp only [objLt] at hlt
      obtain ⟨ho, hlt⟩ := and_b hlt
      have ho : o < nm0 := by rw [← Nat.blt_eq]; exact ho
      have hput := put_ok (lkc := lkc) hp1 (ν := νk) (nm := o) (by rw [hag o ho]; exact hu)
      obtain ⟨νf, ams', e1, e2, e3, e4, e5, e6, e7⟩ := ih (ams := hs1 ++ ams) (nm := nm + 1) (νk := νk) (a := { a with objs := (putK D o kd x).2 ++ a.objs }) hp2 (by omega) hlt (fun o ho => hfr o (by omega)) hag h1 (hput.2.append h2) h3
      refine ⟨νf, ams', e1, by rw [List.length_cons, ← elen]; exact e2, e3, ?_, e5, e6, e7⟩
      refine List.Perm.trans ?_ e4
      rw [← List.append_assoc]
      exact List.Perm.append_right ams List.perm_append_comm

/-- What stays, as it lay when a way or a loop was entered. -/
structure RoE (D : Shp S) (ν0 νe : Nm) (ro : Ro S) (sp : Spec S) (nm : Nat) : Prop where
  dom : ∀ o v, νe o = some v → o < nm
  ext : Ext ν0 νe
  slots : ∀ j, hasN ro.lock j = true → ∃ v σ, SRep D νe σ v (ro.slots j)
  objs : ∀ q ∈ ro.objs, ∃ σ m, ORep D νe σ ro.cell q.1 q.2 m
  cells : ∀ q ∈ sp.cobj, ∀ i, i < q.2.2 → itemC sp.items q.1 i = false → ∃ v σ, SRep D νe σ v (ro.cell q.1 i)
  cobj : nodupQ (sp.cobj.map (·.1)) = true
  lt : objLt nm sp.items = true
  clt : ∀ q ∈ sp.cobj, q.1 < nm

theorem nodupQ_ok : ∀ {l : List Nat}, nodupQ l = true → l.Nodup
  | [], _ => List.nodup_nil
  | a :: l, h => by
    obtain ⟨h1, h2⟩ := and_b h
    exact List.nodup_cons.2 ⟨hasN_mem (by simpa using h1), nodupQ_ok h2⟩
theorem stillL_ok {g : Nat → Bool} : ∀ {l : List (SV S)} {k i : Nat}, stillL g k l = true → i < l.length → g (k + i) = false → l[i]? = some .lk
  | s :: l, k, i, h, hi, hg => by
    have hl : stillL g (k + 1) l = true ∧ (s = .lk ∨ g k = true) := by
      cases s <;> first | exact ⟨h, .inl rfl⟩ | exact ⟨(and_b h).2, .inr (and_b h).1⟩
    cases i with
    | zero =>
      rcases hl.2 with rfl | hk
      · rfl
      · rw [Nat.add_zero] at hg; rw [hg] at hk; cases hk
    | succ i =>
      rw [List.getElem?_cons_succ]
      exact stillL_ok hl.1 (by simpa using hi) (by rw [← hg]; congr 1; omega)
theorem mkCells_get {g : Nat → Option (SV S)} : ∀ {n k i : Nat}, i < n → (mkCells g k n)[i]? = some ((g (k + i)).getD .lk)
  | n + 1, k, 0, _ => by simp [mkCells]
  | n + 1, k, i + 1, h => by
    simp only [mkCells, List.getElem?_cons_succ]
    rw [mkCells_get (by omega)]
    congr 3; omega
theorem mkCells_len {g : Nat → Option (SV S)} : ∀ {n k : Nat}, (mkCells g k n).length = n
  | 0, _ => rfl
  | n + 1, k => by simp [mkCells, mkCells_len]
theorem resL_len {g : Nat → SV S} {l : List (SV S)} {i : Nat} : (resL g i l).length = l.length := noLk_sub
theorem resL_lk {g : Nat → SV S} : ∀ {l : List (SV S)} {k i : Nat}, l[i]? = some .lk → (resL g k l)[i]? = some (g (k + i))
  | s :: l, k, 0, h => by simp at h; subst h; simp [resL]
  | s :: l, k, i + 1, h => by
    have := resL_lk (g := g) (l := l) (k := k + 1) (i := i) (by simpa using h)
    have e : k + 1 + i = k + (i + 1) := by omega
    rw [e] at this
    cases s <;> simpa [resL] using this
theorem cellQ_ok {o i : Nat} {s : SV S} : ∀ {l : List ((Nat × Nat) × SV S)}, cellQ l o i = some s → ((o, i), s) ∈ l
  | [], h => by cases h
  | ((o', i'), s') :: l, h => by
    simp only [cellQ] at h
    cases hb : (Nat.beq o' o && Nat.beq i' i) with
    | true =>
      rw [hb] at h; cases h
      obtain ⟨h1, h2⟩ := and_b hb
      rw [Nat.eq_of_beq_eq_true h1, Nat.eq_of_beq_eq_true h2]; simp
    | false =>
      rw [hb] at h
      exact List.mem_cons_of_mem _ (cellQ_ok h)
theorem cellQ_cons {o i : Nat} {q : (Nat × Nat) × SV S} {l : List ((Nat × Nat) × SV S)} (h : cellQ l o i ≠ none) : cellQ (q :: l) o i ≠ none := by
  obtain ⟨⟨o', i'⟩, s⟩ := q
  simp only [cellQ]
  cases (Nat.beq o' o && Nat.beq i' i) with
  | true => simp
  | false => exact h
theorem putAll_keep {o i : Nat} : ∀ {l : List (Item S)} {xs : HL l} {nm : Nat} {a : Acc S}, cellQ a.cells o i ≠ none → cellQ (putAll D l xs nm a).cells o i ≠ none
  | [], _, _, _, h => h
  | (.slot j, kd) :: l, (x, _), nm, a, h => putAll_keep (l := l) (a := { a with slots := updS a.slots j (putK D nm kd x).1, objs := (putK D nm kd x).2 ++ a.objs }) h
  | (.cell o' i', kd) :: l, (x, _), nm, a, h => putAll_keep (l := l) (a := { a with cells := ((o', i'), (putK D nm kd x).1) :: a.cells, objs := (putK D nm kd x).2 ++ a.objs }) (cellQ_cons h)
  | (.obj o', kd) :: l, (x, _), _, a, h => putAll_keep (l := l) (a := { a with objs := (putK D o' kd x).2 ++ a.objs }) h
theorem putAll_cell {o i : Nat} : ∀ {l : List (Item S)} {xs : HL l} {nm : Nat} {a : Acc S}, itemC l o i = true → cellQ (putAll D l xs nm a).cells o i ≠ none
  | [], _, _, _, h => by cases h
  | (.slot j, kd) :: l, (x, xs), nm, a, h => putAll_cell (l := l) (xs := xs) (nm := nm + 1) (a := { a with slots := updS a.slots j (putK D nm kd x).1, objs := (putK D nm kd x).2 ++ a.objs }) h
  | (.cell o' i', kd) :: l, (x, xs), nm, a, h => by
    simp only [itemC] at h
    simp only [putAll]
    cases hb : (Nat.beq o' o && Nat.beq i' i) with
    | true => exact putAll_keep (l := l) (by simp [cellQ, hb])
    | false => rw [hb] at h; exact putAll_cell (l := l) h
  | (.obj o', kd) :: l, (x, xs), nm, a, h => putAll_cell (l := l) (xs := xs) (nm := nm + 1) (a := { a with objs := (putK D o' kd x).2 ++ a.objs }) h

/-- Some of the objects, in their order. -/
theorem Objs.takeR {lkc : Nat → Nat → SV S} {tlo os os' : List (Nat × AO S)} {ms : List HObj} (h : Objs D ν σ lkc (os ++ os') ms) (hn : (tlo.map (·.1)).Nodup) (hq : ∀ q ∈ tlo, findN os q.1 = some q.2) :
    ∃ ins r1 r2, ms.Perm (ins ++ (r1 ++ r2)) ∧ Objs D ν σ lkc tlo ins ∧ Objs D ν σ lkc (delNs os (tlo.map (·.1))) r1 ∧ Objs D ν σ lkc os' r2 := by
  obtain ⟨ins, rest, hp, h1, h2⟩ := h.takes hn hq
  obtain ⟨r1, r2, rfl, h3, h4⟩ := h2.split
  exact ⟨ins, r1, r2, hp, h1, h3, h4⟩

theorem endI_ok {νe : Nm} {sp : Spec S} {nm : Nat} {Y : HL sp.items → Prop} (hD : D.Ok) (hE : RoE D ν0 νe ro sp nm) (h : G D cx ν0 ro st f w ν σ ms) (hY : endI D ro sp st Y) :
    ∃ t ν' σ' ms', Y t ∧ G D cx ν0 ro (stOf D sp nm t) f w ν' σ' ms' := by
  obtain ⟨xs, st', σ', hs, ms', hK, hsl, hsub, hG, hp⟩ := getAll_ok hD (tk := []) ⟨by simpa using h.mem, h.objs, h.slots⟩ hY
  obtain ⟨hend, hK⟩ := bif_f hK
  refine ⟨xs, ?_⟩
  -- the objects with locked cells
  have hfind : ∀ q ∈ sp.cobj, ∃ l : List (SV S), findN st'.objs q.1 = some (.cells q.2.1 l) ∧ l.length = q.2.2 ∧ stillL (itemC sp.items q.1) 0 l = true := by
    intro q hq
    have := List.all_eq_true.1 hend q hq
    split at this
    case h_2 => cases this
    rename_i ty l hf
    obtain ⟨h1, h3⟩ := and_b this
    obtain ⟨h1, h2⟩ := and_b h1
    rw [Nat.eq_of_beq_eq_true h1] at hf
    exact ⟨l, hf, Nat.eq_of_beq_eq_true h2, h3⟩
  have hlist : ∃ tlo : List (Nat × AO S), tlo.map (·.1) = sp.cobj.map (·.1) ∧ ∀ q ∈ tlo, findN st'.objs q.1 = some q.2 := by
    have key : ∀ (l : List (Nat × TypeId × Nat)), (∀ q ∈ l, ∃ a, findN st'.objs q.1 = some a) → ∃ tlo : List (Nat × AO S), tlo.map (·.1) = l.map (·.1) ∧ ∀ q ∈ tlo, findN st'.objs q.1 = some q.2 := by
      intro l
      induction l with
      | nil => intro _; exact ⟨[], rfl, by simp⟩
      | cons q l ih =>
        intro hq
        obtain ⟨a, ha⟩ := hq q (by simp)
        obtain ⟨tlo, h1, h2⟩ := ih (fun q hq' => hq q (by simp [hq']))
        refine ⟨(q.1, a) :: tlo, by simp [h1], fun q' hq' => ?_⟩
        rcases List.mem_cons.1 hq' with rfl | hq'
        · exact ha
        · exact h2 q' hq'
    exact key sp.cobj fun q hq => by obtain ⟨l, hl, _⟩ := hfind q hq; exact ⟨_, hl⟩
  obtain ⟨tlo, ht1, ht2⟩ := hlist
  obtain ⟨ins, r1, r2, hperm, ho1, ho0, ho2⟩ := hG.objs.takeR (tlo := tlo) (by rw [ht1]; exact nodupQ_ok hE.cobj) ht2
  -- the names
  let νb : Nm := fun o => if o < nm then ν o else none
  obtain ⟨νf, ams', e1, e2, e3, e4, e5, e6, e7⟩ := putAll_ok (D := D) (ν := ν) (σ := σ') (f := f) (w := w) (nm0 := nm) (lkc := ro.cell) (l := sp.items) (xs := xs) (hs := hs) (ams := []) (nm := nm) (νk := νb) (a := ⟨fun _ => .dead, [], []⟩) hp (Nat.le_refl _) hE.lt
    (fun o ho => if_neg (by omega)) (fun o ho => if_pos ho) (fun j => .dead _) trivial (by simp)
  rw [List.append_nil] at e4
  have hag : ∀ o v, νe o = some v → νf o = ν o := fun o v ho => e3 o (hE.dom o v ho)
  -- memory
  have hmem : St cx w σ' (ams' ++ (ins ++ r2)) := by
    have h1 := hG.mem
    rw [List.nil_append] at h1
    have h2 := h1.perm (ms' := (ams' ++ (ins ++ r2)) ++ r1) (by
      refine (List.Perm.append e4 hperm).trans ?_
      rw [List.append_assoc, List.append_assoc]
      exact List.Perm.append_left ams' (List.Perm.append_left ins List.perm_append_comm))
    exact h2.sublist (List.sublist_append_left _ _)
  refine ⟨νf, σ', ams' ++ (ins ++ r2), hK, hmem, ?_, ?_, ?_, ?_⟩
  · -- objects
    show Objs D νf σ' ro.cell (((putAll D sp.items xs nm ⟨fun _ => .dead, [], []⟩).objs ++ objsOf (putAll D sp.items xs nm ⟨fun _ => .dead, [], []⟩).cells sp.cobj) ++ ro.objs) _
    rw [List.append_assoc]
    refine e6.append (Objs.append ?_ (Objs.transfer hE.objs ho2 hag))
    have hmemi : ∀ m ∈ ins, m.ok w := fun m hm => hmem.own m (by simp [hm])
    have hcl := hE.cells
    have hclt := hE.clt
    clear hE hend hperm hmem ho0
    generalize sp.cobj = cl at hfind ht1 hcl hclt
    induction cl generalizing tlo ins with
    | nil =>
      cases tlo with
      | cons => cases ht1
      | nil =>
        cases ins with
        | nil => trivial
        | cons => exact ho1.elim
    | cons q cl ih =>
      cases tlo with
      | nil => cases ht1
      | cons q' tlo =>
        cases ins with
        | nil => exact ho1.elim
        | cons m ins =>
          injection ht1 with ht0 ht1
          obtain ⟨o, a⟩ := q'
          obtain ⟨o', ty, len⟩ := q
          simp only at ht0
          subst ht0
          refine ⟨?_, ih (ins := ins) (tlo := tlo) (ht1 := ht1) (ht2 := fun q hq => ht2 q (by simp [hq])) (ho1 := ho1.2) (hfind := fun q hq => hfind q (by simp [hq])) (hcl := fun q hq => hcl q (by simp [hq])) (hclt := fun q hq => hclt q (by simp [hq])) (hmemi := fun m hm => hmemi m (by simp [hm]))⟩
          obtain ⟨l, hl, hlen, hstill⟩ := hfind (o, ty, len) (by simp)
          have ha := ht2 (o, a) (by simp)
          simp only at ha hl hlen hstill
          rw [hl] at ha; cases ha
          obtain ⟨b, cs, hν, hm, hrow⟩ := ho1.1
          subst hm
          have hon : o < nm := hclt (o, ty, len) (by simp)
          have hcsl : cs.length = len := by rw [hrow.1, resL_len, hlen]
          have hblk := hmemi (blk b ty cs) (by simp)
          refine ⟨b, cs, by rw [e3 o hon]; exact hν, rfl, by rw [resL_len, mkCells_len, hcsl], fun j v s hj hs => ?_, hrow.2.2⟩
          have hjl : j < len := by rw [← hcsl]; exact lt_of_getq hj
          have hget := mkCells_get (g := cellQ (putAll D sp.items xs nm ⟨fun _ => .dead, [], []⟩).cells o) (k := 0) hjl
          rw [Nat.zero_add] at hget
          cases hc : cellQ (putAll D sp.items xs nm ⟨fun _ => .dead, [], []⟩).cells o j with
          | some s' =>
            rw [hc, Option.getD_some] at hget
            obtain ⟨hne, u, hu, hr⟩ := e7 _ (cellQ_ok hc)
            rw [resL_get hget hne] at hs
            cases hs
            have hcell := blk_row hblk j v hj
            rw [add_lit, Nat.zero_add] at hcell
            unfold cellV at hu
            simp only [hν] at hu
            rw [hcell] at hu; cases hu
            exact hr
          | none =>
            rw [hc, Option.getD_none] at hget
            have hitem : itemC sp.items o j = false := by
              cases hb : itemC sp.items o j with
              | false => rfl
              | true => exact absurd hc (putAll_cell hb)
            have hs' := resL_lk (g := ro.cell o) (k := 0) hget
            rw [hs'] at hs; cases hs
            rw [Nat.zero_add]
            have hlk := stillL_ok hstill (i := j) (by omega) (by rw [Nat.zero_add]; exact hitem)
            have hres := resL_lk (g := ro.cell o) (k := 0) hlk
            rw [Nat.zero_add] at hres
            obtain ⟨v1, σ1, hv1⟩ := hcl (o, ty, len) (by simp) j hjl hitem
            exact hv1.transfer (hrow.2.1 j v _ hj hres) hag
  · -- slots
    intro j
    show SRep D νf σ' (f j) (bif hasN ro.lock j then ro.slots j else (putAll D sp.items xs nm ⟨fun _ => .dead, [], []⟩).slots j)
    cases hl : hasN ro.lock j with
    | false => exact e5 j
    | true =>
      obtain ⟨v1, σ1, hv1⟩ := hE.slots j hl
      have := h.slots j
      unfold slotS at this
      rw [hl] at this
      exact hv1.transfer (this.mono (Ext.refl ν) hsub) hag
  · exact e2
  · intro o v ho
    rw [hag o v (hE.ext o v ho)]
    exact h.ext o v ho
#print axioms endI_ok
end Go.Fx
