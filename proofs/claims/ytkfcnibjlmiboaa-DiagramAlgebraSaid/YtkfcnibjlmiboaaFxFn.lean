/- A function does what its own text says: the steps, and the whole. Conditions: those in the statements. -/
import Derived.Test.YtkfcnibjlmiboaaFxCall
namespace Go.Fx
open Go Go.RowKit Go.Fl Go.Fl.Lk
variable {S : Sig} {P : Program} {D : Shp S} {ν ν' ν0 ν1 : Nm} {σ τ σ0 σ1 : Hv} {n : Nat} {f : Fr}
variable {w w0 : World} {cx : Cx} {ro : Ro S} {st : AS S} {ms : List HObj}

theorem mk_defers : (mk n f).defers = [] := by unfold mk; rfl
theorem frl_rep : ∀ {vs : List Value} {ss : List (SV S)}, vs.length = ss.length → (∀ (j : Nat) v s, vs[j]? = some v → ss[j]? = some s → SRep D ν σ v s) → ∀ j, SRep D ν σ (frl vs j) (frlS ss j) := by
  intro vs ss hl h j
  rw [frl_eq]
  unfold frlS
  rw [List.getD_eq_getElem?_getD, List.getD_eq_getElem?_getD]
  rcases Nat.lt_or_ge j ss.length with hlt | hge
  · obtain ⟨v, hv⟩ := getq (l := vs) (k := j) (by omega)
    obtain ⟨s, hs⟩ := getq (l := ss) (k := j) hlt
    rw [hv, hs]
    exact h j v s hv hs
  · rw [List.getElem?_eq_none hge, List.getElem?_eq_none (by omega)]
    exact .und

/-- Into a function's own text. -/
def InlOk (E : Ev S) (inlh : InlH S) (C : Ro S → Prop) : Prop :=
  ∀ {g : Nat} {cx : Cx} {ν0 : Nm} {ro : Ro S} {st : AS S} {f : Fr} {w : World} {ν : Nm} {σ : Hv} {ms : List HObj} {full : List (SV S)} {vals : List Value} {k : AS S → SV S → Prop} {R : Ending → World → Prop}, C ro →
    inlh g full ro st k → G E.D cx ν0 ro st f w ν σ ms → vals.length = full.length → (∀ (j : Nat) v s, vals[j]? = some v → full[j]? = some s → SRep E.D ν σ v s) →
    (∀ st' s v w' ν' σ' ms', k st' s → st'.slots = st.slots → SRep E.D ν' σ' v s → G E.D cx ν0 ro st' f w' ν' σ' ms' → Ext ν ν' → Sub σ σ' → R (.returned v) w') → Calls E.P g vals.toArray w R

theorem step_ok {E : Ev S} (hE : EvOk E) {inlh : InlH S} {C : Ro S → Prop} (hin : InlOk E inlh C) (n : Nat) : StH E inlh n C := by
  intro cx ν0 ro st f w ν σ ms o ban k hro hk h
  unfold stepS at hk
  split at hk
  · rename_i fo args ts ho
    split at hk
    case h_2 => exact hk.elim
    rename_i g first cap hf
    split at hk
    · rename_i c hc
      obtain ⟨hen, hM⟩ := hE.con g c hc
      exact step_call hE.hP.ok hen hM h ho hf hk
    · obtain ⟨hi, hk⟩ := bif_f hk
      obtain ⟨hi, hban⟩ := and_b hi
      intro KK Q hKK
      have hfn := ev_ok (n := n) h.slots fo
      rw [hf] at hfn
      generalize hfv : ev n f fo = fv at hfn
      cases hfn with
      | fn _ a b _ _ hl ha hl' hb =>
        obtain ⟨hlen, hreps⟩ := full_ok hl ha hl' hb (vs := args.toList.map (ev n f)) (ss := args.toList.map (evS n ro st)) (by simp) (fun j v s hj hk => by
          rw [List.getElem?_map] at hj hk
          rcases hq : args.toList[j]? with _ | x
          · rw [hq] at hj; cases hj
          · rw [hq] at hj hk; cases hj; cases hk; exact ev_ok h.slots x)
        have hrun := run_value (w := w) ho hfv (hE.inl g hi)
        unfold Oper.wp
        rw [eval_mk, hrun, Oper.upon_enter]
        refine hin hro hk h hlen hreps fun st' s v w' ν' σ' ms' hk' _ hs hG hx hsub => ?_
        show KK ((mk n f).put o.dst v) w'
        rw [mk_put]
        obtain ⟨st2, hk2, _, _, hG2⟩ := hG.put hs hk'
        refine hKK [] st2 _ w' ν' σ' ms' hk2 hG2 hx hsub ⟨_, rfl⟩ (.inr ⟨_, hban, fun b o a v ho hf _ _ _ => absurd (List.mem_map.2 ⟨_, findN_mem hf, rfl⟩) ho⟩)
  · rename_i op hop
    cases hb : isEff (obS ro st) (evS n ro st) o.op with
    | true => rw [hb] at hk; simp only [forceO_eq] at hk; exact step_eff hE.hP h hk
    | false => rw [hb] at hk; exact step_pure hE.hP h hk
theorem at_ok {E : Ev S} (hE : EvOk E) (b : Nat) : EvOk (E.at b) := ⟨hE.hP, hE.mix, hE.con, hE.inl⟩
theorem refQ_ok {a b : SV S} (h : refQ a b = true) : a = b := by
  unfold refQ at h
  split at h
  · obtain ⟨h1, h2⟩ := and_b h
    rw [Nat.eq_of_beq_eq_true h1, Nat.eq_of_beq_eq_true h2]
  · cases h
theorem outItems_lt {nm : Nat} : ∀ {l : List (Item S)}, objLt nm l = true → objLt nm (outItems l) = true
  | [], _ => rfl
  | (.slot j, kd) :: l, h => outItems_lt (l := l) h
  | (.obj o, kd) :: l, h => by
    obtain ⟨h1, h2⟩ := and_b h
    simp only [outItems, objLt, h1, outItems_lt h2, Bool.and_self]
  | (.cell o i, kd) :: l, h => by
    obtain ⟨h1, h2⟩ := and_b h
    simp only [outItems, objLt, h1, outItems_lt h2, Bool.and_self]
theorem RoE.out {sp : Spec S} {νe : Nm} {ro : Ro S} {nm : Nat} (h : RoE D ν0 νe ro sp nm) (hc : sp.cobj = []) : RoE D ν0 νe ro (outSp sp) nm :=
  ⟨h.dom, h.ext, h.slots, h.objs, fun q hq => (by rw [show (outSp sp).cobj = sp.cobj from rfl, hc] at hq; cases hq), h.cobj, outItems_lt h.lt, h.clt⟩
theorem name_lt {lkc : Nat → Nat → SV S} {nx o : Nat} {a : AO S} {m : HObj} (hf : ∀ o, nx ≤ o → ν o = none) (h : ORep D ν σ lkc o a m) : o < nx := by
  have hn : ∃ v, ν o = some v := by
    cases a with
    | cells ty l => obtain ⟨b, cs, h1, _⟩ := h; exact ⟨_, h1⟩
    | vec e T l => obtain ⟨v, xs, h1, _⟩ := h; exact ⟨_, h1⟩
    | frz T l => obtain ⟨v, h1, _⟩ := h; exact ⟨_, h1⟩
    | arr ty T N l => obtain ⟨b, cs, h1, _⟩ := h; exact ⟨_, h1⟩
    | map K V F => obtain ⟨b, m, h1, _⟩ := h; exact ⟨_, h1⟩
    | iter K V F done cur => obtain ⟨r, b, es, clock, cv, h1, _⟩ := h; exact ⟨_, h1⟩
  obtain ⟨v, hv⟩ := hn
  rcases Nat.lt_or_ge o nx with hlt | hge
  · exact hlt
  · rw [hf o hge] at hv; cases hv
theorem objIn_lt {lkc : Nat → Nat → SV S} {nx : Nat} (hf : ∀ o, nx ≤ o → ν o = none) : ∀ {l : List (Item S)} {os : List (Nat × AO S)}, (∀ o a, findN os o = some a → ∃ m, ORep D ν σ lkc o a m) → objIn os l = true → objLt nx l = true
  | [], _, _, _ => rfl
  | (.slot j, kd) :: l, os, hr, h => objIn_lt hf (l := l) hr h
  | (.obj o, kd) :: l, os, hr, h => by
    obtain ⟨h1, h2⟩ := and_b h
    obtain ⟨a, ha⟩ := Option.isSome_iff_exists.1 h1
    obtain ⟨m, hm⟩ := hr o a ha
    simp only [objLt, objIn_lt hf hr h2, Bool.and_true, Nat.blt_eq]
    exact name_lt hf hm
  | (.cell o i, kd) :: l, os, hr, h => by
    obtain ⟨h1, h2⟩ := and_b h
    obtain ⟨a, ha⟩ := Option.isSome_iff_exists.1 h1
    obtain ⟨m, hm⟩ := hr o a ha
    simp only [objLt, objIn_lt hf hr h2, Bool.and_true, Nat.blt_eq]
    exact name_lt hf hm
/-- A frame with locked slots, entered. -/
theorem G.lockF {sp : Spec S} {ro1 ro' : Ro S} {full full' : List (SV S)} {vals : List Value} (h : G D cx ν0 ro' st f w ν σ ms) (ho : ro'.objs = ro1.objs) (hc : ro'.cell = ro1.cell) (hl : ro1.lock = sp.lock)
    (hs : ∀ j, hasN sp.lock j = true → ro1.slots j = frlS full j) (hsame : sp.lock.all (fun j => refQ (frlS full' j) (frlS full j)) = true) (hlen : vals.length = full'.length) (hr : ∀ (j : Nat) v s, vals[j]? = some v → full'[j]? = some s → SRep D ν σ v s) :
    G D ⟨w, σ, feet ms⟩ ν ro1 { slots := frlS full', objs := st.objs, next := st.next } (frl vals) w ν σ ms := by
  have hmem : St cx w σ (ms ++ []) := by rw [List.append_nil]; exact h.mem
  refine ⟨hmem.inner, by have := h.objs; rw [ho, hc] at this; exact this, fun j => ?_, h.fresh, Ext.refl _⟩
  have hj := frl_rep hlen hr j
  show SRep D ν σ _ (bif hasN ro1.lock j then ro1.slots j else frlS full' j)
  rw [hl]
  cases hb : hasN sp.lock j with
  | false => exact hj
  | true =>
    rw [cond_true, hs j hb]
    have : j ∈ sp.lock := by
      refine Classical.byContradiction fun hn => ?_
      rw [hasN_of hn] at hb; cases hb
    rw [← refQ_ok (List.all_eq_true.1 hsame j this)]
    exact hj
theorem inl_ok {E : Ev S} (hE : EvOk E) : ∀ fuel, InlOk E (inlN E fuel) (fun _ => True) := by
  intro fuel
  induction fuel with
  | zero => intro g cx ν0 ro st f w ν σ ms full vals k R _ hk; exact hk.elim
  | succ fuel ih =>
    intro g cx ν0 ro st f w ν σ ms full vals k R _ hk h hlen hreps hR
    simp only [inlN] at hk
    split at hk
    case h_2 => exact hk.elim
    rename_i fn hfn
    split at hk
    case h_2 => exact hk.elim
    rename_i c hc
    obtain ⟨hs, hk⟩ := bif_f hk
    have hmem : St cx w σ (ms ++ []) := by rw [List.append_nil]; exact h.mem
    have hG : G E.D ⟨w, σ, feet ms⟩ ν { slots := fun _ => .dead, lock := [], objs := ro.objs, cell := ro.cell } { slots := frlS full, objs := st.objs, next := st.next } (frl vals) w ν σ ms :=
      ⟨hmem.inner, h.objs, frl_rep hlen hreps, h.fresh, Ext.refl _⟩
    split at hk
    · have hR2 : ∀ st' f' w' ν' σ' ms', G E.D ⟨w, σ, feet ms⟩ ν { slots := fun _ => .dead, lock := [], objs := ro.objs, cell := ro.cell } st' f' w' ν' σ' ms' →
          (resK E.P E.D fn.ntmps { slots := fun _ => .dead, lock := [], objs := ro.objs, cell := ro.cell } st' fn.results.toList fun r => k { slots := st.slots, objs := st'.objs, next := st'.next } (tupS r)) →
          ∃ v, (results fn (mk fn.ntmps f').tmps).run E.P w' = .ok v w' ∧ ∃ u, Ending.returned v = .returned u ∧ R (.returned u) w' := by
        intro st' f' w' ν' σ' ms' hG' hk'
        obtain ⟨ss, vs, hk', hl1, hl2, hr1, hr2⟩ := res_ok hE.hP hG' hk'
        refine ⟨retV vs, results_run hl2 hr2, _, rfl, hR _ _ _ w' ν' σ' (ms' ++ []) hk' rfl (tup_ok hl1 hr1) ⟨hmem.callM hG'.mem rfl, ?_, fun j => (h.slots j).mono hG'.ext hG'.mem.sub, hG'.fresh, h.ext.trans hG'.ext⟩ hG'.ext hG'.mem.sub⟩
        rw [List.append_nil]; exact hG'.objs
      refine Calls.mono (R := fun e w => ∃ u, e = .returned u ∧ R (.returned u) w) ?_ ?_
      · refine enter hfn hc rfl (by rw [List.size_toArray, hlen]; exact hs) (vc_ok (E := E.at (1000000 * (g + 1))) (C := fun _ => True) (fun _ _ _ _ => trivial) (n := fn.ntmps) hE.hP hE.mix (step_ok (at_ok hE _) ih fn.ntmps) trivial hk hG (fun c a w => ?_) ?_)
        · rintro ⟨_, u, hu, _⟩; cases hu
        · intro e st' f' w' ν' σ' ms' hk' hG'
          cases e with
          | ret =>
            obtain ⟨v, h1, h2⟩ := hR2 _ _ _ _ _ _ hG' hk'
            exact bodyPost_ret h1 mk_defers h2
          | normal =>
            obtain ⟨v, h1, h2⟩ := hR2 _ _ _ _ _ _ hG' hk'
            exact bodyPost_end h1 mk_defers h2
          | _ => exact hk'.elim
      · rintro e w' ⟨u, rfl, hu⟩
        exact hu
    · -- a piece that goes into itself
      rename_i sp _
      obtain ⟨robj, hr, hk⟩ := planK_some hk
      obtain ⟨hcc, hk⟩ := bif_f hk
      obtain ⟨hcc, hres⟩ := and_b hcc
      obtain ⟨hcc, hcob⟩ := and_b hcc
      have hcob : sp.cobj = [] := by simpa using hcob
      have hres : fn.results.toList = [] := by simpa using hres
      have hch := cobjQ_ok hcc
      obtain ⟨ms1, hG1⟩ := hG.enter hch hr
      have hRE := hG1.roE hch
      have hG1' : G E.D ⟨w, σ, feet ms⟩ ν { roOf sp { slots := fun _ => .dead, lock := [], objs := ro.objs, cell := ro.cell } { slots := frlS full, objs := st.objs, next := st.next } robj with stamp := 1 } { slots := frlS full, objs := lockObjs sp (delNs st.objs sp.robj), next := st.next } (frl vals) w ν σ ms1 := ⟨hG1.mem, hG1.objs, hG1.slots, hG1.fresh, hG1.ext⟩
      have hRE' : RoE E.D ν ν { roOf sp { slots := fun _ => .dead, lock := [], objs := ro.objs, cell := ro.cell } { slots := frlS full, objs := st.objs, next := st.next } robj with stamp := 1 } sp st.next := ⟨hRE.dom, hRE.ext, hRE.slots, hRE.objs, hRE.cells, hRE.cobj, hRE.lt, hRE.clt⟩
      have hlk : ({ roOf sp { slots := fun _ => .dead, lock := [], objs := ro.objs, cell := ro.cell } { slots := frlS full, objs := st.objs, next := st.next } robj with stamp := 1 } : Ro S).lock = sp.lock := rfl
      have hsl : ∀ j, hasN sp.lock j = true → ({ roOf sp { slots := fun _ => .dead, lock := [], objs := ro.objs, cell := ro.cell } { slots := frlS full, objs := st.objs, next := st.next } robj with stamp := 1 } : Ro S).slots j = frlS full j := fun j _ => rfl
      have hleave : ∀ {cx' : Cx} {a : AS S} {f' : Fr} {w' : World} {ν' : Nm} {σ' : Hv} {ms' : List HObj}, G E.D cx' ν { roOf sp { slots := fun _ => .dead, lock := [], objs := ro.objs, cell := ro.cell } { slots := frlS full, objs := st.objs, next := st.next } robj with stamp := 1 } a f' w' ν' σ' ms' → G E.D cx' ν { slots := fun _ => .dead, lock := [], objs := ro.objs, cell := ro.cell } (merge sp { slots := frlS full, objs := st.objs, next := st.next } robj a) f' w' ν' σ' ms' := by
        intro cx' a f' w' ν' σ' ms' hg
        exact G.leave hch hr ⟨hg.mem, hg.objs, hg.slots, hg.fresh, hg.ext⟩
      generalize hro1 : ({ roOf sp { slots := fun _ => .dead, lock := [], objs := ro.objs, cell := ro.cell } { slots := frlS full, objs := st.objs, next := st.next } robj with stamp := 1 } : Ro S) = ro1 at hk hG1' hRE' hlk hsl hleave
      have hst1 : ro1.stamp = 1 := by rw [← hro1]
      obtain ⟨t0, ν2, σ2, ms2, hL, hG2⟩ := endI_ok hE.hP.ok hRE' hG1' hk
      have main := hL (fun nm t Y => ∀ (cx : Cx) (ν0 νe : Nm) (vals : List Value) (w : World) (ν : Nm) (σ : Hv) (ms : List HObj), Nat.ble vals.toArray.size fn.ntmps = true → RoE E.D ν0 νe ro1 sp nm → G E.D cx ν0 ro1 (stOf E.D sp nm t) (frl vals) w ν σ ms →
        Calls E.P g vals.toArray w fun e w' => ∃ u v f' ν' σ' ms', e = .returned v ∧ SRep E.D ν' σ' v (.tup []) ∧ Y u ∧ G E.D cx ν0 ro1 (stOf E.D (outSp sp) nm u) f' w' ν' σ' ms') (fun nm t Y hb cx ν0 νe vals w ν σ ms hsz hRE hG => ?_)
      · refine Calls.mono (main ⟨w, σ, feet ms⟩ ν ν vals w ν2 σ2 ms2 (by rw [List.size_toArray, hlen]; exact hs) hRE' hG2) ?_
        rintro e w' ⟨u, v, f', ν', σ', ms', rfl, hv, hu, hGu⟩
        have hGl := hleave hGu
        refine hR _ _ v w' ν' σ' (ms' ++ []) hu rfl hv ⟨hmem.callM hGl.mem rfl, ?_, fun j => (h.slots j).mono hGl.ext hGl.mem.sub, hGl.fresh, h.ext.trans hGl.ext⟩ hGl.ext hGl.mem.sub
        rw [List.append_nil]
        exact hGl.objs
      · -- the body
        have hin : InlOk E (hndl E.D g sp ro1 full fun nm t Y => ∀ (cx : Cx) (ν0 νe : Nm) (vals : List Value) (w : World) (ν : Nm) (σ : Hv) (ms : List HObj), Nat.ble vals.toArray.size fn.ntmps = true → RoE E.D ν0 νe ro1 sp nm → G E.D cx ν0 ro1 (stOf E.D sp nm t) (frl vals) w ν σ ms →
            Calls E.P g vals.toArray w fun e w' => ∃ u v f' ν' σ' ms', e = .returned v ∧ SRep E.D ν' σ' v (.tup []) ∧ Y u ∧ G E.D cx ν0 ro1 (stOf E.D (outSp sp) nm u) f' w' ν' σ' ms') (fun r => r.stamp = 1 → r = ro1) := by
          intro g' cx ν0 ro' st' f w ν σ ms full' vals k' R hro' hk' h hlen' hreps' hR'
          unfold hndl at hk'
          obtain ⟨hcc', hk'⟩ := bif_f hk'
          obtain ⟨hcc', hoi⟩ := and_b hcc'
          obtain ⟨hcc', hsame⟩ := and_b hcc'
          obtain ⟨hcc', hfl⟩ := and_b hcc'
          obtain ⟨hg', hstm⟩ := and_b hcc'
          have hg' := Nat.eq_of_beq_eq_true hg'
          subst hg'
          have hro' := hro' (Nat.eq_of_beq_eq_true hstm)
          subst hro'
          have hG0 := h.lockF rfl rfl hlk hsl hsame hlen' hreps'
          have hmem' : St cx w σ (ms ++ []) := by rw [List.append_nil]; exact h.mem
          have hRE0 : RoE E.D ν ν ro' sp st'.next := by
            refine ⟨fun o v hv => ?_, Ext.refl ν, fun j hj => ?_, fun q hq => ?_, fun q hq => (by rw [hcob] at hq; cases hq), hRE'.cobj, ?_, fun q hq => (by rw [hcob] at hq; cases hq)⟩
            · rcases Nat.lt_or_ge o st'.next with hlt | hge
              · exact hlt
              · rw [h.fresh o hge] at hv; cases hv
            · have := hG0.slots j
              unfold slotS at this
              rw [hj] at this
              exact ⟨_, _, this⟩
            · obtain ⟨m1, m2, rfl, h1, h2⟩ := h.objs.split
              obtain ⟨m, hm⟩ := h2.mem (o := q.1) (a := q.2) hq
              exact ⟨σ, m, hm⟩
            · refine objIn_lt (D := E.D) (σ := σ) (lkc := ro'.cell) h.fresh (fun o a ha => ?_) hoi
              obtain ⟨m, _, hm⟩ := h.objs.find (o := o) (a := a) (by rw [findN_append, ha])
              exact ⟨m, hm⟩
          obtain ⟨t, ν3, σ3, ms3, ht, hG3⟩ := endI_ok hE.hP.ok hRE0 hG0 hk'
          refine Calls.mono (ht _ ν ν vals w ν3 σ3 ms3 (by rw [List.size_toArray, hlen', Nat.eq_of_beq_eq_true hfl]; exact hs) hRE0 hG3) ?_
          rintro e w' ⟨u, v, f', ν', σ', ms', rfl, hv, hu, hGu⟩
          refine hR' _ _ v w' ν' σ' (ms' ++ []) hu rfl hv ⟨hmem'.callM hGu.mem rfl, ?_, fun j => (h.slots j).mono hGu.ext hGu.mem.sub, hGu.fresh, h.ext.trans hGu.ext⟩ hGu.ext hGu.mem.sub
          rw [List.append_nil]; exact hGu.objs
        have hout := hRE.out hcob
        have hfin : ∀ st' f' w' ν' σ' ms', G E.D cx ν0 ro1 st' f' w' ν' σ' ms' → endI E.D ro1 (outSp sp) st' Y →
            ∃ v, (results fn (mk fn.ntmps f').tmps).run E.P w' = .ok v w' ∧ ∃ u v' f' ν' σ' ms', Ending.returned v = .returned v' ∧ SRep E.D ν' σ' v' (.tup []) ∧ Y u ∧ G E.D cx ν0 ro1 (stOf E.D (outSp sp) nm u) f' w' ν' σ' ms' := by
          intro st' f' w' ν' σ' ms' hG' hk'
          obtain ⟨u, ν3, σ3, ms3, hu, hG3⟩ := endI_ok hE.hP.ok hout hG' hk'
          refine ⟨retV [], results_run (by rw [hres]; rfl) (fun i a v hi => by rw [hres] at hi; cases hi), u, _, f', ν3, σ3, ms3, rfl, ?_, hu, hG3⟩
          exact .tup [] [] rfl fun j v s hj => by cases hj
        refine enter hfn hc rfl hsz (vc_ok (E := E.at (1000000 * (g + 1))) (C := fun r => r.stamp = 1 → r = ro1) (fun _ _ _ _ hst => by cases hst) (n := fn.ntmps) hE.hP hE.mix (step_ok (at_ok hE _) hin fn.ntmps) (fun _ => rfl) hb hG (fun c a w => ?_) ?_)
        · rintro ⟨_, u, v, _, _, _, _, hu, _⟩; cases hu
        · intro e st' f' w' ν' σ' ms' hk' hG'
          cases e with
          | ret =>
            obtain ⟨v, h1, h2⟩ := hfin _ _ _ _ _ _ hG' hk'
            exact bodyPost_ret h1 mk_defers h2
          | normal =>
            obtain ⟨v, h1, h2⟩ := hfin _ _ _ _ _ _ hG' hk'
            exact bodyPost_end h1 mk_defers h2
          | _ => exact hk'.elim
theorem step_all {E : Ev S} (hE : EvOk E) (fuel n : Nat) : StH E (inlN E fuel) n (fun _ => True) := step_ok hE (inl_ok hE fuel) n
/-! The whole function. -/
theorem resL_raw : ∀ {l : List (SV S)} {k : Nat}, resL (fun _ => SV.lk) k l = l
  | [], _ => rfl
  | s :: l, k => by
    rw [resL_cons, resL_raw]
    cases s <;> rfl
def roI (os : List (Nat × AO S)) : Ro S := { slots := fun _ => .dead, lock := [], objs := [], cell := fun o i => match findN os o with | some (.cells _ l) => l.getD i .dead | _ => .dead }
theorem lockP_objs {cs : List (Nat × Nat)} {lkc : Nat → Nat → SV S} : ∀ {os : List (Nat × AO S)} {ms : List HObj}, (∀ q ∈ os, ∀ ty l, q.2 = .cells ty l → ∀ i s, l[i]? = some s → lkc q.1 i = s) → Objs D ν σ (fun _ _ => .lk) os ms → Objs D ν σ lkc (lockP cs os) ms
  | [], ms, _, h => by cases ms with | nil => trivial | cons => exact h.elim
  | (o, a) :: os, ms, hq, h => by
    cases ms with
    | nil => exact h.elim
    | cons m ms =>
      have ih := lockP_objs (cs := cs) (fun q hq' => hq q (by simp [hq'])) h.2
      have h1 := h.1
      cases a with
      | cells ty l =>
        simp only [lockP]
        refine ⟨?_, ih⟩
        obtain ⟨b, vs, e1, e2, e3⟩ := h1
        refine ⟨b, vs, e1, e2, ?_⟩
        rw [lockL_res (h := fun _ => .lk) (fun i s hi => by rw [resL_raw] at hi; rw [Nat.zero_add]; exact hq (o, .cells ty l) (by simp) ty l rfl i s hi)]
        exact e3
      | vec e T l => exact ⟨h1, ih⟩
      | frz T l => exact ⟨h1, ih⟩
      | arr ty T N l => exact ⟨h1, ih⟩
      | map K V F => exact ⟨h1, ih⟩
      | iter K V F done cur => exact ⟨h1, ih⟩
theorem fn_ok {E : Ev S} (hE : EvOk E) (fuel g : Nat) (pk rk : List (PK S)) : Meets E.P E.D g ⟨pk, fnVC E fuel g pk rk⟩ := by
  intro args K hm w σ vals ins hL hS
  simp only [fnVC] at hm
  split at hm
  case h_2 => exact hm.elim
  rename_i fn hfn
  split at hm
  case h_2 => exact hm.elim
  rename_i c ss os nx hc hi
  obtain ⟨hs, hm⟩ := bif_f hm
  have hD := hE.hP.ok
  obtain ⟨νi, _, hfr, hlen, hreps, hraw, _, hnm, hnd⟩ := insts_ok (lkc := fun _ _ => .lk) (ν := fun _ => none) hL hi (fun _ _ => rfl)
  have hfind : ∀ q ∈ os, findN os q.1 = some q.2 := fun q hq => findN_of_mem hnd hq
  have hG : G E.D ⟨w, σ, feet ins⟩ νi (roI os) { slots := frlS ss, objs := lockP (consT pk ss (findN os)) os, next := nx } (frl vals) w νi σ ins := by
    refine ⟨hS, ?_, frl_rep hlen hreps, hfr, Ext.refl _⟩
    show Objs E.D νi σ (roI os).cell (lockP (consT pk ss (findN os)) os ++ []) ins
    rw [List.append_nil]
    refine lockP_objs (fun q hq ty l he i s hs => ?_) hraw
    have := hfind q hq
    simp only [roI, this, he, List.getD_eq_getElem?_getD, hs, Option.getD_some]
  have hR : ∀ a f' w' ν' σ' ms', G E.D ⟨w, σ, feet ins⟩ νi (roI os) a f' w' ν' σ' ms' → (resK E.P E.D fn.ntmps (roI os) a fn.results.toList fun r => optK (gaths E.D (obS (roI os) a) (roI os).cell rk r) fun q => optK (backT (obS (roI os) a) (findN os) (roI os).cell pk ss) fun q' =>
      optK (frzs (obS (roI os) a) (q.2.2 ++ q'.2.2)) fun _ => bif nodupQ (q.2.1 ++ q'.2.1 ++ (q.2.2 ++ q'.2.2)) && inRw a (q.2.1 ++ q'.2.1 ++ (q.2.2 ++ q'.2.2)) then K q.1 q'.1 else False) →
      ∃ v, (results fn (mk fn.ntmps f').tmps).run E.P w' = .ok v w' ∧ Back E.D σ w args vals ins K (.returned v) w' := by
    intro a f' w' ν' σ' ms' hG' hk
    obtain ⟨rs, vs, hk, hl1, hl2, hr1, hr2⟩ := res_ok hE.hP hG' hk
    refine ⟨retV vs, results_run hl2 hr2, ?_⟩
    obtain ⟨q, hq, hk⟩ := optK_some hk
    obtain ⟨q', hq', hk⟩ := optK_some hk
    obtain ⟨fz, hfz, hk⟩ := optK_some hk
    obtain ⟨hc, hk⟩ := bif_f hk
    obtain ⟨hndq, hrw⟩ := and_b hc
    obtain ⟨rets, tk1, fz1⟩ := q
    obtain ⟨outs, tk2, fz2⟩ := q'
    simp only at hfz hndq hrw hk
    have hrw0 := hrw
    rw [inRw_append, inRw_append] at hrw0
    obtain ⟨hrw1, hrw3⟩ := and_b hrw0
    obtain ⟨hrw1, hrw2⟩ := and_b hrw1
    obtain ⟨tlo1, ht1, hob1⟩ := names_rw (ro := roI os) hrw1
    obtain ⟨tlo2, ht2, hob2⟩ := names_rw (ro := roI os) hrw2
    obtain ⟨tlo3, ht3, hob3⟩ := names_rw (ro := roI os) hrw3
    obtain ⟨oh, kn, _⟩ := hG'.kn (n := fn.ntmps)
    have htl : ((tlo1 ++ tlo2) ++ tlo3).map (·.1) = tk1 ++ tk2 ++ (fz1 ++ fz2) := by rw [List.map_append, List.map_append, ht1, ht2, ht3]
    obtain ⟨insA, rest, hp, ho, _⟩ := hG'.objs.takes (tlo := (tlo1 ++ tlo2) ++ tlo3) (by rw [htl]; exact nodupQ_ok hndq) (fun q hq => by
      have hqm : q.1 ∈ tk1 ++ tk2 ++ (fz1 ++ fz2) := by rw [← htl]; exact List.mem_map.2 ⟨q, hq, rfl⟩
      obtain ⟨x, hx⟩ := inRw_find hrw q.1 hqm
      refine obS_rw (ro := roI os) hx ?_
      rcases List.mem_append.1 hq with hq | hq
      · rcases List.mem_append.1 hq with hq | hq
        · exact hob1 q hq
        · exact hob2 q hq
      · exact hob3 q hq)
    obtain ⟨i12, i3, rfl, ho12, ho3⟩ := ho.split
    obtain ⟨i1, i2, rfl, ho1, ho2⟩ := ho12.split
    have hS1 : St ⟨w, σ, feet ins⟩ w' σ' ((i1 ++ i2) ++ i3) := (hG'.mem.perm hp).sublist (List.sublist_append_left _ _)
    obtain ⟨σ2, m3, hS2, hsub2, hofz⟩ := freeze_all hD hfz ht3 hob3 ho3 hS1
    have hrep := frz_rep hfz hofz
    have hor : ∀ o x, obS (roI os) a o = some x → ORep E.D ν' σ2 (roI os).cell o x (oh o) := fun o x ho => (kn.o o x ho).1.mono (Ext.refl _) hsub2
    obtain ⟨m1, hLr, hN1⟩ := gaths_lay hD hor hl1 (fun j v s hj hk => (hr1 j v s hj hk).mono (Ext.refl _) hsub2) hq ht1 hob1 (ho1.mono (Ext.refl _) hsub2) (fun o e T l v hm => hrep o e T l v (by simp [hm]))
    obtain ⟨m2, hLt, hN2⟩ := backT_ok (ν0 := νi) (σ0 := σ) (w0 := w) (os := findN os) hD hor (fun o ty l hf => by
        obtain ⟨m, hm, b, cs, e1, e2, e3⟩ := hraw.find hf
        rw [resL_raw] at e3
        exact ⟨b, cs, e1, e3, by rw [← e2]; exact hS.own m hm⟩) (fun o ty l hf j => by simp only [roI, hf]) hG'.ext (hS2.sub) hL hi hfind (fun q hq => hS.own q hq) hlen hreps hq' ht2 hob2 (ho2.mono (Ext.refl _) hsub2) (fun o e T l v hm => hrep o e T l v (by simp [hm]))
    have hS3 : St ⟨w, σ, feet ins⟩ w' σ2 ((i1 ++ i2) ++ []) := by rw [List.append_nil]; exact hS2.sublist (List.sublist_append_left _ _)
    have hS4 := (hN1.append hN2) _ _ _ _ hS3
    rw [List.append_nil] at hS4
    exact ⟨rets, outs, vs, σ2, m1, m2, rfl, hk, hLr, hLt, hS4⟩
  refine enter hfn hc rfl (by rw [List.size_toArray, hlen]; exact hs) (vc_ok (C := fun _ => True) (fun _ _ _ _ => trivial) (n := fn.ntmps) hE.hP hE.mix (step_all hE fuel fn.ntmps) trivial hm hG (fun c a w => ?_) ?_)
  · rintro ⟨_, _, _, _, _, _, _, hu, _⟩; cases hu
  · intro e st' f' w' ν' σ' ms' hk' hG'
    cases e with
    | ret =>
      obtain ⟨v, h1, h2⟩ := hR _ _ _ _ _ _ hG' hk'
      exact bodyPost_ret h1 mk_defers h2
    | normal =>
      obtain ⟨v, h1, h2⟩ := hR _ _ _ _ _ _ hG' hk'
      exact bodyPost_end h1 mk_defers h2
    | _ => exact hk'.elim
#print axioms fn_ok
end Go.Fx
