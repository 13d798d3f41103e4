/- Calls: of functions whose contracts are known, and into functions' own texts. Conditions: those in the statements. -/
import Derived.Test.YtkfcnibjlmiboaaFxBack
namespace Go.Fx
open Go Go.RowKit Go.Fl Go.Fl.Lk
variable {S : Sig} {P : Program} {D : Shp S} {ν ν' ν0 ν1 : Nm} {σ τ σ0 σ1 : Hv} {n : Nat} {f : Fr}
variable {w w0 : World} {cx : Cx} {ro : Ro S} {st : AS S} {ms : List HObj}

def retV : List Value → Value
  | [v] => v
  | l => .tuple l.toArray
/-- A function that is entered when it is called. -/
def Ent (P : Program) (g : Nat) : Prop := ∀ args w, (callFunc g args).run P w = .ok (.enter g args) w
/-- What comes of a call. -/
def Back (D : Shp S) (σ : Hv) (w : World) (args : List (Tr S)) (vals : List Value) (ins : List HObj) (K : List (Tr S) → List (Tr S) → Prop) (e : Ending) (w1 : World) : Prop :=
  ∃ rets outs rv σ1 msr mso, e = .returned (retV rv) ∧ K rets outs ∧ LayL D σ1 rets rv msr ∧ LayT D σ1 args outs vals ins mso ∧ St ⟨w, σ, feet ins⟩ w1 σ1 (msr ++ mso)
/-- A function does what its contract says. -/
def Meets (P : Program) (D : Shp S) (g : Nat) (c : Con S) : Prop :=
  ∀ args K, c.m args K → ∀ (w : World) (σ : Hv) (vals : List Value) (ins : List HObj), LayL D σ args vals ins → St ⟨w, σ, feet ins⟩ w σ ins → Calls P g vals.toArray w (Back D σ w args vals ins K)
structure EvOk (E : Ev S) : Prop where
  hP : E.D.OkP E.P
  mix : E.P.follows .mixedOrders = true
  con : ∀ g c, E.con g = some c → Ent E.P g ∧ Meets E.P E.D g c
  inl : ∀ g, E.inl g = true → Ent E.P g

/-! Results. -/
theorem run_load_of {t : TypeId} {x : Operand} {r : Operand → Value} {v : Value} {oo : Oper} (hoo : oo.op = .load t x) (h : (execOp r oo).run P w = .ok (.value v) w) (a : Addr) (ha : r x = .pointer (some a)) : (loadVar t a).run P w = .ok v w := by
  simp only [execOp, hoo, ha, Instr.loadAt, Instr.sureAddr, Sem.run_bind, Sem.run_pure, Result.andThen_ok] at h
  cases hr : (loadVar t a).run P w with
  | ok u w' =>
    rw [hr] at h
    simp only [Result.andThen_ok, Result.ok.injEq, Next.value.injEq] at h
    rw [h.1, h.2]
  | halt s w' => rw [hr] at h; cases h
theorem mapM_run {α : Type} {g : α → Sem Value} : ∀ {l : List α} {vs : List Value}, vs.length = l.length → (∀ (i : Nat) a v, l[i]? = some a → vs[i]? = some v → (g a).run P w = .ok v w) → (l.mapM g).run P w = .ok vs w
  | [], vs, hl, _ => by
    have := List.eq_nil_of_length_eq_zero hl
    subst this
    simp
  | a :: l, vs, hl, h => by
    cases vs with
    | nil => cases hl
    | cons v vs =>
      have h1 := h 0 a v rfl rfl
      have h2 := mapM_run (g := g) (l := l) (vs := vs) (by simpa using hl) (fun i a v hi hj => h (i + 1) a v (by simpa using hi) (by simpa using hj))
      simp [List.mapM_cons, h1, h2]
def rvS (tmps : Array Value) : ResultVar → Sem Value
  | .tmp t => pure (tmps.getD t undef)
  | .cell a t => asAddr (tmps.getD a undef) >>= fun b => loadVar t b
theorem results_rvS (fn : Func) (tmps : Array Value) : results fn tmps = (fn.results.mapM (rvS tmps) >>= fun vs => pure (if h : vs.size = 1 then vs[0] else .tuple vs)) := by
  unfold results
  congr 1
theorem results_run {fn : Func} {tmps : Array Value} {vs : List Value} (hl : vs.length = fn.results.toList.length) (h : ∀ (i : Nat) a v, fn.results.toList[i]? = some a → vs[i]? = some v → (rvS tmps a).run P w = .ok v w) : (results fn tmps).run P w = .ok (retV vs) w := by
  have h1 := mapM_run hl h
  have h2 : (fn.results.mapM (rvS tmps)).run P w = .ok vs.toArray w := by
    rw [Array.mapM_eq_mapM_toList, map_eq_pure_bind, Sem.run_bind, h1]
    rfl
  rw [results_rvS, Sem.run_bind, h2]
  simp only [Result.andThen_ok, Sem.run_pure]
  rcases vs with _ | ⟨v, _ | ⟨v', vs⟩⟩
  · simp [retV]
  · simp [retV]
  · simp [retV]
theorem res_ok {n : Nat} (hP : D.OkP P) (h : G D cx ν0 ro st f w ν σ ms) : ∀ {l : List ResultVar} {K : List (SV S) → Prop}, resK P D n ro st l K → ∃ (ss : List (SV S)) (vs : List Value), K ss ∧ vs.length = ss.length ∧ vs.length = l.length ∧ (∀ (j : Nat) v s, vs[j]? = some v → ss[j]? = some s → SRep D ν σ v s) ∧
    ∀ (i : Nat) a v, l[i]? = some a → vs[i]? = some v → (rvS (mk n f).tmps a).run P w = .ok v w := by
  obtain ⟨oh, kn, hms⟩ := h.kn (n := n)
  have put : ∀ {l : List ResultVar} {K : List (SV S) → Prop} {r : ResultVar} {s : SV S} {v : Value}, SRep D ν σ v s → (rvS (mk n f).tmps r).run P w = .ok v w →
      (∃ (ss : List (SV S)) (vs : List Value), K (s :: ss) ∧ vs.length = ss.length ∧ vs.length = l.length ∧ (∀ (j : Nat) v s, vs[j]? = some v → ss[j]? = some s → SRep D ν σ v s) ∧ ∀ (i : Nat) a v, l[i]? = some a → vs[i]? = some v →
        (rvS (mk n f).tmps a).run P w = .ok v w) →
      ∃ (ss : List (SV S)) (vs : List Value), K ss ∧ vs.length = ss.length ∧ vs.length = (r :: l).length ∧ (∀ (j : Nat) v s, vs[j]? = some v → ss[j]? = some s → SRep D ν σ v s) ∧ ∀ (i : Nat) a v, (r :: l)[i]? = some a → vs[i]? = some v →
        (rvS (mk n f).tmps a).run P w = .ok v w := by
    intro l K r s v hs hr hx
    obtain ⟨ss, vs, h1, h2, h3, h4, h5⟩ := hx
    refine ⟨s :: ss, v :: vs, h1, by simp [h2], by simp [h3], fun j v' s' hj hk => ?_, fun i a v' hi hj => ?_⟩
    · cases j with
      | zero => simp at hj hk; subst hj hk; exact hs
      | succ j => exact h4 j v' s' (by simpa using hj) (by simpa using hk)
    · cases i with
      | zero => simp at hi hj; subst hi hj; exact hr
      | succ i => exact h5 i a v' (by simpa using hi) (by simpa using hj)
  intro l
  induction l with
  | nil => intro K hk; exact ⟨[], [], hk, rfl, rfl, fun j v s hj => by simp at hj, fun i a v hi => by simp at hi⟩
  | cons r l ih =>
    intro K hk
    cases r with
    | tmp t =>
      simp only [resK] at hk
      refine put (r := .tmp t) (kn.e (.tmp t)) ?_ (ih hk)
      unfold rvS; rw [Sem.run_pure, res_ev rfl]
    | cell t ty =>
      simp only [resK] at hk
      obtain ⟨rd, s, v, hK, hs, hrun⟩ := pure_ok hP kn hk
      have hr := hrun w ⟨none, .load ty (.tmp t), 0, default, #[], none⟩ rfl h.mem.view (fun o _ a ha => h.mem.own _ (hms o a ha))
      refine put (r := .cell t ty) hs ?_ (ih hK)
      obtain ⟨a, ha⟩ : ∃ a, ev n f (.tmp t) = .pointer (some a) := by
        have hsr := kn.e (.tmp t)
        simp only [pureOp] at hk
        generalize evS n ro st (.tmp t) = sv at hk hsr
        generalize ev n f (.tmp t) = u at hsr
        cases hsr with
        | ref o off b h => exact ⟨_, rfl⟩
        | eref T o i off b m cap h hi => exact ⟨_, rfl⟩
        | aref T N o i off b h hi => exact ⟨_, rfl⟩
        | fptr ad cs l off h hr => exact ⟨_, rfl⟩
        | fap ad cs T N l hN h hl hr => exact ⟨_, rfl⟩
        | _ => exact hk.elim
      have h2 := run_load_of rfl hr a ha
      have h3 := res_ev (n := n) (f := f) ha
      simp only [rvS, h3, asAddr, Sem.run_bind, Sem.run_pure, Result.andThen_ok, h2]
theorem tup_ok {ss : List (SV S)} {vs : List Value} (hl : vs.length = ss.length) (h : ∀ (j : Nat) v s, vs[j]? = some v → ss[j]? = some s → SRep D ν σ v s) : SRep D ν σ (retV vs) (tupS ss) := by
  rcases ss with _ | ⟨s, _ | ⟨s', ss⟩⟩
  · have := List.eq_nil_of_length_eq_zero hl
    subst this
    exact .tup [] [] rfl h
  · rcases vs with _ | ⟨v, _ | ⟨v', vs⟩⟩
    · cases hl
    · exact h 0 v s rfl rfl
    · simp at hl
  · rcases vs with _ | ⟨v, _ | ⟨v', vs⟩⟩
    · cases hl
    · simp at hl
    · exact .tup _ _ hl h

/-! A call of a function whose contract is known. -/
theorem run_value {g : FuncId} {fo : Operand} {args : Array Operand} {ts : Array TypeId} {a b : List Value} {o : Oper} (ho : o.op = .call ⟨.value fo, args, ts⟩) (hf : ev n f fo = .func (.func g) a.toArray b.toArray) (hg : Ent P g) :
    (execOp (ev n f) o).run P w = .ok (.enter g (a ++ args.toList.map (ev n f) ++ b).toArray) w := by
  have hx : (a.toArray ++ args.map (ev n f) ++ b.toArray) = (a ++ args.toList.map (ev n f) ++ b).toArray := by
    apply Array.ext'
    simp
  rw [← hx]
  simp [execOp, ho, resolve, hf, Deferred.ofValue, invoke]
  exact hg _ w
theorem names_rw : ∀ {l : List Nat}, inRw st l = true → ∃ tlo : List (Nat × AO S), tlo.map (·.1) = l ∧ ∀ q ∈ tlo, obS ro st q.1 = some q.2
  | [], _ => ⟨[], rfl, by simp⟩
  | o :: l, h => by
    obtain ⟨h1, h2⟩ := and_b h
    obtain ⟨a, ha⟩ := Option.isSome_iff_exists.1 h1
    obtain ⟨tlo, h3, h4⟩ := names_rw h2
    refine ⟨(o, a) :: tlo, by simp [h3], fun q hq => ?_⟩
    rcases List.mem_cons.1 hq with rfl | hq
    · unfold obS; rw [ha]
    · exact h4 q hq
theorem inRw_append : ∀ {l l' : List Nat}, inRw st (l ++ l') = (inRw st l && inRw st l')
  | [], _ => by simp [inRw]
  | o :: l, l' => by
    simp only [List.cons_append, inRw, inRw_append, Bool.and_assoc]
theorem full_ok {vs a b : List Value} {first cap ss : List (SV S)} (hl : a.length = first.length) (h : ∀ (j : Nat) v s, a[j]? = some v → first[j]? = some s → SRep D ν σ v s) (hl' : b.length = cap.length) (h' : ∀ (j : Nat) v s, b[j]? = some v → cap[j]? = some s → SRep D ν σ v s)
    (hm : vs.length = ss.length) (hm' : ∀ (j : Nat) v s, vs[j]? = some v → ss[j]? = some s → SRep D ν σ v s) : (a ++ vs ++ b).length = (first ++ ss ++ cap).length ∧ ∀ (j : Nat) v s, (a ++ vs ++ b)[j]? = some v → (first ++ ss ++ cap)[j]? = some s → SRep D ν σ v s := by
  refine ⟨by simp [hl, hl', hm], fun j v s hj hk => ?_⟩
  have e : (a ++ vs).length = (first ++ ss).length := by simp [hl, hm]
  rw [List.getElem?_append] at hj hk
  rw [e] at hj
  split at hj
  · rename_i hlt
    rw [if_pos hlt] at hk
    rw [List.getElem?_append] at hj hk
    rw [hl] at hj
    split at hj
    · rename_i hlt2
      rw [if_pos hlt2] at hk
      exact h j v s hj hk
    · rename_i hge
      rw [if_neg hge] at hk
      exact hm' _ v s hj hk
  · rename_i hge
    rw [if_neg hge] at hk
    exact h' _ v s hj hk
theorem step_call {c : Con S} {g : Nat} {fo : Operand} {args : Array Operand} {ts : Array TypeId} {first cap : List (SV S)} {o : Oper} {ban : List Nat → Bool} {k : List Nat → AS S → Prop} (hD : D.Ok) (hen : Ent P g) (hM : Meets P D g c) (h : G D cx ν0 ro st f w ν σ ms)
    (ho : o.op = .call ⟨.value fo, args, ts⟩) (hf : evS n ro st fo = .fn g first cap) (hk : callC D c ro st (first ++ args.toList.map (evS n ro st) ++ cap) ban fun st s => putS ro st o.dst s (k [])) : StepOk P D cx ν0 ro st n o f w ν σ ban k := by
  intro KK Q hKK
  obtain ⟨oh, kn, hms⟩ := h.kn (n := n)
  have hfn := kn.e fo
  rw [hf] at hfn
  generalize hfv : ev n f fo = fv at hfn
  cases hfn with
  | fn _ a b _ _ hl ha hl' hb =>
    obtain ⟨hlen, hreps⟩ := full_ok hl ha hl' hb (vs := args.toList.map (ev n f)) (ss := args.toList.map (evS n ro st)) (by simp) (fun j v s hj hk => by
      rw [List.getElem?_map] at hj hk
      rcases hq : args.toList[j]? with _ | x
      · rw [hq] at hj; cases hj
      · rw [hq] at hj hk; cases hj; cases hk; exact kn.e x)
    generalize first ++ args.toList.map (evS n ro st) ++ cap = full at hk hlen hreps
    unfold callC at hk
    obtain ⟨q, hq, hk⟩ := optK_some hk
    obtain ⟨fz, hfz, hk⟩ := optK_some hk
    obtain ⟨hc, hk⟩ := bif_f hk
    obtain ⟨hc, hban⟩ := and_b hc
    obtain ⟨hnd, hrw⟩ := and_b hc
    obtain ⟨t0s, tk, fzl⟩ := q
    simp only at hfz hnd hrw hban hk hq
    rw [inRw_append] at hrw
    obtain ⟨hrw1, hrw2⟩ := and_b hrw
    obtain ⟨tlo1, ht1, hob1⟩ := names_rw (ro := ro) hrw1
    obtain ⟨tlo2, ht2, hob2⟩ := names_rw (ro := ro) hrw2
    have hrun := run_value (w := w) ho hfv hen
    generalize a ++ args.toList.map (ev n f) ++ b = vals at hlen hreps hrun
    have htl : (tlo1 ++ tlo2).map (·.1) = tk ++ fzl := by rw [List.map_append, ht1, ht2]
    obtain ⟨ins, h1, h2, h3⟩ := h.turn htl (nodupQ_ok hnd) (by rw [inRw_append, hrw1, hrw2]; rfl) (fun q hq => by
      rcases List.mem_append.1 hq with hq | hq
      · exact hob1 q hq
      · exact hob2 q hq)
    obtain ⟨i1, i2, rfl, ho1, ho2⟩ := h1.split
    obtain ⟨σ1, m1, hS1, hsub1, hofz⟩ := freeze_all hD hfz ht2 hob2 ho2 h2
    have hor : ∀ o a, obS ro st o = some a → ORep D ν σ1 ro.cell o a (oh o) ∧ (oh o).ok w := fun o a ho => ⟨(kn.o o a ho).1.mono (Ext.refl _) hsub1, (kn.o o a ho).2⟩
    have hreps1 : ∀ (j : Nat) v s, vals[j]? = some v → full[j]? = some s → SRep D ν σ1 v s := fun j v s hj hk => (hreps j v s hj hk).mono (Ext.refl _) hsub1
    obtain ⟨i1', hLay, hNil⟩ := gaths_lay hD (fun o a ho => (hor o a ho).1) hlen hreps1 hq ht1 hob1 (ho1.mono (Ext.refl _) hsub1) (frz_rep hfz hofz)
    have hS2 := hNil _ _ _ _ hS1
    have hcall := hM _ _ hk w σ1 vals i1' hLay hS2.inner
    unfold Oper.wp
    rw [eval_mk, hrun, Oper.upon_enter]
    refine hcall.mono ?_
    rintro e w1 ⟨rets, outs, rv, σ2, msr, mso, rfl, hk, hLr, hLt, hS3⟩
    show KK ((mk n f).put o.dst (retV rv)) w1
    rw [mk_put]
    obtain ⟨u, hu, hk⟩ := optK_some hk
    obtain ⟨r, hr, hk⟩ := optK_some hk
    obtain ⟨uo, un⟩ := u
    obtain ⟨rs, ros, rn⟩ := r
    rw [forceO_eq] at hk
    simp only at hr hk
    have hS4 := hS2.callM hS3 rfl
    have hsub2 := hS3.sub
    simp only at hsub2
    obtain ⟨ν2, hx2, hf2, ho3⟩ := updT_ok hor hlen hreps1 hq hLt (fun m hm => hS2.own m (by simp [hm])) hu (Ext.refl _) h.fresh
    obtain ⟨ν3, hx3, hf3, hl3, hr3, ho4, _⟩ := insts_ok (lkc := ro.cell) hLr hr hf2
    obtain ⟨hsub, ⟨ms2, hG⟩, hleft⟩ := h3 (outs := ros ++ (uo ++ fz)) (nx := rn) (hx2.trans hx3) hf3 (by rw [List.append_assoc] at hS4; exact hS4) (ho4.append ((ho3.mono hx3 (Sub.refl _)).append (hofz.mono (hx2.trans hx3) hsub2)))
    have hG' : G D cx ν0 ro { slots := st.slots, objs := ros ++ (uo ++ (fz ++ delNs st.objs (tk ++ fzl))), next := rn } f w1 ν3 σ2 ms2 := by
      rw [List.append_assoc, List.append_assoc] at hG
      exact hG
    obtain ⟨st', hk', _, _, hG2⟩ := hG'.put (tup_ok hl3 hr3) hk
    exact hKK [] st' _ w1 ν3 σ2 ms2 hk' hG2 (hx2.trans hx3) hsub ⟨_, rfl⟩ (.inr ⟨_, hban, hleft⟩)
#print axioms step_call
end Go.Fx
