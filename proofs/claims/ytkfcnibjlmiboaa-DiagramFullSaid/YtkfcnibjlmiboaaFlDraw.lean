/- A region that draws its order: what leaves the world alone may be taken first. Conditions: none; every rule speaks of any program. -/
import Derived.Test.YtkfcnibjlmiboaaFlRead
import Derived.Orders
namespace Go.Fl
open Go Go.RowKit

variable {P : Program} {ops : Array Oper} {md : Region.Mode} {Q : Exit → Act → World → Prop} {n : Nat} {f : Fr} {w : World}

/-- The normal way out alone. -/
def nrm (K : Act → World → Prop) : Exit → Act → World → Prop := fun e a w => e = .normal ∧ K a w

/-- Whatever order comes, each step keeps J. -/
def wpJ (P : Program) (md : Region.Mode) (ops : Array Oper) (Q : Exit → Act → World → Prop) (J : World → Prop) : Nat → Array Bool → Act → World → Prop
  | 0, listed, a, w => Region.ready md ops listed = [] ∧ Q .normal a w
  | fuel + 1, listed, a, w =>
    (Region.ready md ops listed = [] → Q .normal a w) ∧
    ∀ i ∈ Region.ready md ops listed, wpOp P ops Q i (fun a w => J w ∧ wpJ P md ops Q J fuel (listed.setIfInBounds i true) a w) a w

theorem wpJ_any {J : World → Prop} : ∀ (fuel : Nat) (listed : Array Bool) (a : Act) (w : World), wpJ P md ops Q J fuel listed a w → wpAny P md ops Q fuel listed a w
  | 0, _, _, _, h => h
  | fuel + 1, _, _, _, h => ⟨h.1, fun i hi => wpOp_mono (fun a w hk => wpJ_any fuel _ a w hk.2) (h.2 i hi)⟩
theorem wpJ_weak {J J' : World → Prop} (hj : ∀ w, J' w → J w) : ∀ (fuel : Nat) (listed : Array Bool) (a : Act) (w : World), wpJ P md ops Q J' fuel listed a w → wpJ P md ops Q J fuel listed a w
  | 0, _, _, _, h => h
  | fuel + 1, _, _, _, h => ⟨h.1, fun i hi => wpOp_mono (fun a w hk => ⟨hj w hk.1, wpJ_weak hj fuel _ a w hk.2⟩) (h.2 i hi)⟩

/-- In state a, in every world of J, operation i leaves the world alone and comes to state a.put dst v. -/
def Still (P : Program) (ops : Array Oper) (J : World → Prop) (i : Nat) (oi : Oper) (v : Value) (a : Act) : Prop :=
  ∀ w, J w → ∀ K : Act → World → Prop, K (a.put oi.dst v) w → wpOp P ops (nrm K) i K a w

theorem upon_put {o : Oper} {a : Act} {dj : Option Tmp} {u : Value} (hne : ∀ d, o.dst = some d → dj ≠ some d) {K K' : Act → World → Prop} {r : Result Next}
    (h : o.upon P a (fun a' w' => K (a'.put dj u) w') (nrm K') r) {Q' : Exit → Act → World → Prop} : o.upon P (a.put dj u) K Q' r := by
  cases r with
  | ok x w' =>
    cases x <;> simp only [Oper.upon] at h ⊢
    case value v => rw [← Act.put_comm a v u hne]; exact h
    case skip => rw [← Act.put_comm a undef u hne]; exact h
    case defer d =>
      rw [Act.put_comm ({ a with defers := d :: a.defers } : Act) undef u hne] at h
      have e2 : ({ a with defers := d :: a.defers } : Act).put dj u = { a.put dj u with defers := d :: (a.put dj u).defers } := by cases dj <;> rfl
      rw [e2] at h
      exact h
    case enter g args =>
      refine Calls.mono h fun e w'' he => ?_
      cases e with
      | returned v => simp only at he ⊢; rw [← Act.put_comm a v u hne]; exact he
      | panicked c => exact absurd he.1 (by simp)
      | outgrown => obtain ⟨_, _, hb, _⟩ := he; exact absurd hb (by simp)
    case row row args => exact Rows.mono h fun v w'' he => by rw [← Act.put_comm a v u hne]; exact he
  | halt x w' =>
    cases x <;> simp only [Oper.upon] at h ⊢
    case panic v => exact absurd h.1 (by simp)

theorem upon_q {o : Oper} {a : Act} {K K' : Act → World → Prop} {r : Result Next} (h : o.upon P a K (nrm K') r) {Q' : Exit → Act → World → Prop} : o.upon P a K Q' r := by
  cases r with
  | ok x w' =>
    cases x <;> simp only [Oper.upon] at h ⊢ <;> try exact h
    case enter g args =>
      refine Calls.mono h fun e w'' he => ?_
      cases e with
      | returned v => exact he
      | panicked c => exact absurd he.1 (by simp)
      | outgrown => obtain ⟨_, _, hb, _⟩ := he; exact absurd hb (by simp)
  | halt x w' =>
    cases x <;> simp only [Oper.upon] at h ⊢
    case panic v => exact absurd h.1 (by simp)

theorem no_lets (K : Act → World → Prop) : ¬ LetsOut (nrm K) := by rintro ⟨_, _, h, _⟩; cases h

theorem wpOp_q {i : Nat} {a : Act} {K K' : Act → World → Prop} (h : wpOp P ops (nrm K') i K a w) : wpOp P ops Q i K a w := by
  unfold wpOp at *
  split
  · rename_i ho; simp only [ho] at h; exact h
  · rename_i o ho
    simp only [ho] at h
    split
    · rename_i hw; simp only [hw, if_true] at h
      rcases h with h | ⟨_, hl⟩
      · exact .inl (upon_q h)
      · exact absurd hl (no_lets _)
    · rename_i hw; simp only [hw] at h; exact h

theorem Still.put {J : World → Prop} {i : Nat} {oi oj : Oper} {v : Value} {a : Act} (hi : ops[i]? = some oi) (hap : oi.apart ops oj = true) (hsi : ∀ cs b, oi.op ≠ .select cs b)
    (hy : Still P ops J i oi v a) (u : Value) : Still P ops J i oi v (a.put oj.dst u) := by
  obtain ⟨h1, h2, h3⟩ := Oper.apart_spec hap
  intro w hJ K hK
  have h := hy w hJ (fun a' w' => K (a'.put oj.dst u) w') (by rw [Act.put_comm a v u h2]; exact hK)
  unfold wpOp at *
  simp only [hi] at *
  rw [wanted_put oi a oj.dst u h3]
  split
  · rename_i hw
    simp only [hw, if_true] at h
    rcases h with h | ⟨_, hl⟩
    · left
      unfold Oper.wp at *
      rw [execOp_put oi hsi a oj.dst u h3]
      exact upon_put h2 h
    · exact absurd hl (no_lets _)
  · rename_i hw
    simp only [hw] at h
    rw [← Act.put_comm a undef u h2]
    exact h
theorem Still.defers {J : World → Prop} {i : Nat} {oi : Oper} {v : Value} {a : Act} (hi : ops[i]? = some oi) (hy : Still P ops J i oi v a) (d : Deferred) : Still P ops J i oi v { a with defers := d :: a.defers } := by
  intro w hJ K hK
  have e : ∀ (x : Option Tmp) (u : Value), ({ a with defers := d :: a.defers } : Act).put x u = { a.put x u with defers := d :: (a.put x u).defers } := by
    intro x u; cases x <;> rfl
  have h := hy w hJ (fun a' w' => K { a' with defers := d :: a'.defers } w') (by rw [e] at hK; exact hK)
  have h2 := hy w hJ (fun a' _ => a' = a.put oi.dst v) rfl
  unfold wpOp at *
  simp only [hi] at *
  have hev : ({ a with defers := d :: a.defers } : Act).eval = a.eval := by funext x; cases x <;> rfl
  split
  · rename_i hw
    simp only [hw, if_true] at h h2
    replace h2 := h2.resolve_right (fun hl => no_lets _ hl.2)
    rcases h with h | ⟨_, hl⟩
    · left
      unfold Oper.wp at *
      rw [hev]
      generalize (execOp a.eval oi).run P w = r at *
      cases r with
      | ok x w' =>
        cases x <;> simp only [Oper.upon] at h ⊢
        case value u => rw [e]; exact h
        case skip => rw [e]; exact h
        case defer d' =>
          exfalso
          simp only [Oper.upon] at h2
          have h3 := congrArg (fun z : Act => z.defers.length) h2
          cases ho : oi.dst <;> simp [ho, Act.put] at h3
        case enter g args =>
          refine Calls.mono h fun e' w'' he => ?_
          cases e' with
          | returned u => simp only at he ⊢; rw [e]; exact he
          | panicked c => exact absurd he.1 (by simp)
          | outgrown => obtain ⟨_, _, hb, _⟩ := he; exact absurd hb (by simp)
        case row row args => exact Rows.mono h fun u w'' he => by rw [e]; exact he
      | halt x w' =>
        cases x <;> simp only [Oper.upon] at h ⊢
        case panic u => exact absurd h.1 (by simp)
    · exact absurd hl (no_lets _)
  · rename_i hw
    simp only [hw] at h
    rw [e]; exact h

theorem opJ_put {J : World → Prop} {i j : Nat} {oi oj : Oper} {v : Value} (hi : ops[i]? = some oi) (hj : ops[j]? = some oj) (hap : oi.apart ops oj = true)
    (hsi : ∀ cs b, oi.op ≠ .select cs b) (hsj : ∀ cs b, oj.op ≠ .select cs b)
    (hQ : ∀ c a w, Q (.panic c) (a.put oi.dst v) w → Q (.panic c) a w) {K : Act → World → Prop} {a : Act}
    (hy : Still P ops J i oi v a) (h : wpOp P ops Q j K (a.put oi.dst v) w) :
    wpOp P ops Q j (fun a' w' => Still P ops J i oi v a' ∧ K (a'.put oi.dst v) w') a w := by
  obtain ⟨h1, h2, h3⟩ := Oper.apart_spec hap
  have keep : ∀ u, Still P ops J i oi v (a.put oj.dst u) := fun u => hy.put hi hap hsi u
  unfold wpOp at *
  simp only [hj] at *
  rw [wanted_put oj a oi.dst v h1] at h
  split
  · rename_i hw
    simp only [hw, if_true] at h
    rcases h with h | ⟨hasks, hlets⟩
    case inr => exact .inr ⟨by unfold Oper.asks at *; rw [execOp_put oj hsj a oi.dst v h1] at hasks; exact hasks, hlets⟩
    refine .inl ?_
    unfold Oper.wp at *
    rw [execOp_put oj hsj a oi.dst v h1] at h
    generalize (execOp a.eval oj).run P w = r at *
    cases r with
    | ok x w' =>
      cases x <;> simp only [Oper.upon] at h ⊢
      case value u => exact ⟨keep u, by rw [← Act.put_comm a v u h2]; exact h⟩
      case skip => exact ⟨keep _, by rw [← Act.put_comm a v undef h2]; exact h⟩
      case defer d =>
        have k2 : Still P ops J i oi v (({ a with defers := d :: a.defers } : Act).put oj.dst undef) := (hy.defers hi d).put hi hap hsi undef
        refine ⟨k2, ?_⟩
        rw [← Act.put_comm _ v undef h2, ← Act.put_defers]
        exact h
      case enter g args =>
        refine Calls.mono h fun e w'' he => ?_
        cases e with
        | returned u => exact ⟨keep u, by rw [← Act.put_comm a v u h2]; exact he⟩
        | panicked c => exact hQ _ _ _ he
        | outgrown => exact he
      case row row args => exact Rows.mono h fun u w'' he => ⟨keep u, by rw [← Act.put_comm a v u h2]; exact he⟩
    | halt x w' =>
      cases x <;> simp only [Oper.upon] at h ⊢
      case panic u => exact hQ _ _ _ h
  · rename_i hw
    simp only [hw] at h
    exact ⟨keep _, by rw [← Act.put_comm a v undef h2]; exact h⟩

theorem wpJ_first {J : World → Prop} {i : Nat} {oi : Oper} {v : Value} (hi : ops[i]? = some oi) (hsel : ∀ (j : Nat) (o : Oper) cs b, ops[j]? = some o → o.op ≠ .select cs b)
    (hQ : ∀ c a w, Q (.panic c) (a.put oi.dst v) w → Q (.panic c) a w) :
    ∀ (fuel : Nat) (listed : Array Bool) (a : Act) (w : World), J w →
      (∀ j oj, ops[j]? = some oj → j ≠ i → listed.getD j true = false → (∀ e ∈ oj.after, Region.binds md e = true → e.on ≠ i) → oi.apart ops oj = true) →
      i ∈ Region.ready md ops listed → Still P ops J i oi v a →
      wpJ P md ops Q J fuel (listed.setIfInBounds i true) (a.put oi.dst v) w → wpJ P md ops Q J (fuel + 1) listed a w := by
  intro fuel
  induction fuel with
  | zero =>
    intro listed a w hJ _ hr hy H
    refine ⟨fun h => (by rw [h] at hr; cases hr), fun j hj => ?_⟩
    by_cases hji : j = i
    · subst hji; exact wpOp_q (hy w hJ _ ⟨hJ, H⟩)
    · have := ready_mono hj hji
      rw [H.1] at this
      cases this
  | succ fuel ih =>
    intro listed a w hJ hfree hr hy H
    refine ⟨fun h => (by rw [h] at hr; cases hr), fun j hj => ?_⟩
    by_cases hji : j = i
    · subst hji; exact wpOp_q (hy w hJ _ ⟨hJ, H⟩)
    · have h1 := H.2 j (ready_mono hj hji)
      obtain ⟨hjun, oj, hoj, hall⟩ := mem_ready.1 hj
      have hnot : ∀ e ∈ oj.after, Region.binds md e = true → e.on ≠ i := fun e he hb heq => by
        have h1 := hall e he hb
        have h0 := (mem_ready.1 hr).1
        rw [heq] at h1
        rcases Nat.lt_or_ge i listed.size with h' | h'
        · simp [h'] at h0 h1; rw [h0] at h1; cases h1
        · simp [Array.getElem?_eq_none h'] at h1
      have h2 := opJ_put hi hoj (hfree j oj hoj hji hjun hnot) (fun cs b => hsel i oi cs b hi) (fun cs b => hsel j oj cs b hoj) hQ hy h1
      have hfree' : ∀ k ok, ops[k]? = some ok → k ≠ i → (listed.setIfInBounds j true).getD k true = false →
          (∀ e ∈ ok.after, Region.binds md e = true → e.on ≠ i) → oi.apart ops ok = true := fun k ok hk hki hun hno => by
        refine hfree k ok hk hki ?_ hno
        by_cases hjk : j = k
        · subst hjk; exact hjun
        · rw [getD_set_ne true hjk] at hun; exact hun
      refine wpOp_mono (fun a' w' h3 => ⟨h3.2.1, ih (listed.setIfInBounds j true) a' w' h3.2.1 hfree' (ready_mono hr (Ne.symm hji)) h3.1 ?_⟩) h2
      rw [Array.setIfInBounds_comm _ _ hji]
      exact h3.2.2

theorem wpOp_list {i : Nat} {oi : Oper} {a : Act} {K : Act → World → Prop} (hi : ops[i]? = some oi) (h : wpList P ops (nrm K) [oi] a w) : wpOp P ops (nrm K) i K a w := by
  unfold wpOp
  simp only [hi]
  unfold wpList at h
  split
  · rename_i hw
    rw [if_pos hw] at h
    rcases h with h | ⟨_, hl⟩
    · exact .inl (Oper.wp_mono (fun a w hk => hk.2) h)
    · exact absurd hl (no_lets _)
  · rename_i hw
    rw [if_neg hw] at h
    exact h.2

/-- A still operation is taken first. -/
theorem d_take {J : World → Prop} {listed l' : Array Bool} {fuel i d : Nat} {oi : Oper} {v : Value} (hi : ops[i]? = some oi) (hs : Region.noSelect ops = true) (hf : Region.free md ops listed i = true)
    (hr : (Region.ready md ops listed).contains i = true) (hl : listed.setIfInBounds i true = l') (hd : oi.dst = some d) (hQ : ∀ c a w, Q (.panic c) (a.put (some d) v) w → Q (.panic c) a w) (hJ : J w)
    (hy : ∀ w, J w → ∀ K : Act → World → Prop, K (mk n (upd f d v)) w → wpList P ops (nrm K) [oi] (mk n f) w)
    (h : wpJ P md ops Q J fuel l' (mk n (upd f d v)) w) : wpJ P md ops Q J (fuel + 1) listed (mk n f) w := by
  subst hl
  refine wpJ_first hi (Region.noSelect_spec hs) (v := v) (by rw [hd]; exact hQ) fuel listed _ w hJ (Region.free_spec hi hf) (by simpa using hr) ?_ (by rw [hd, put_mk]; exact h)
  intro w hJ K hK
  rw [hd, put_mk] at hK
  exact wpOp_list hi (hy w hJ K hK)

/-- The only operation that may come. -/
theorem d_one {J : World → Prop} {listed l' : Array Bool} {fuel i : Nat} {oi : Oper} (hr : Region.ready md ops listed = [i]) (hi : ops[i]? = some oi) (hl : listed.setIfInBounds i true = l')
    (h : wpList P ops (nrm fun a w => J w ∧ wpJ P md ops Q J fuel l' a w) [oi] (mk n f) w) : wpJ P md ops Q J (fuel + 1) listed (mk n f) w := by
  subst hl
  refine ⟨fun h0 => (by rw [hr] at h0; cases h0), ?_⟩
  rw [hr]
  intro j hj
  rw [List.mem_singleton] at hj
  subst hj
  exact wpOp_q (wpOp_list hi h)
/-- Two operations, either of which may come. -/
theorem d_two {J : World → Prop} {listed li lj : Array Bool} {fuel i j : Nat} {oi oj : Oper} (hr : Region.ready md ops listed = [i, j]) (hi : ops[i]? = some oi) (hj : ops[j]? = some oj) (hli : listed.setIfInBounds i true = li) (hlj : listed.setIfInBounds j true = lj)
    (h : wpList P ops (nrm fun a w => J w ∧ wpJ P md ops Q J fuel li a w) [oi] (mk n f) w) (h' : wpList P ops (nrm fun a w => J w ∧ wpJ P md ops Q J fuel lj a w) [oj] (mk n f) w) : wpJ P md ops Q J (fuel + 1) listed (mk n f) w := by
  subst hli; subst hlj
  refine ⟨fun h0 => (by rw [hr] at h0; cases h0), ?_⟩
  rw [hr]
  intro k hk
  simp only [List.mem_cons, List.not_mem_nil, or_false] at hk
  rcases hk with rfl | rfl
  · exact wpOp_q (wpOp_list hi h)
  · exact wpOp_q (wpOp_list hj h')
theorem d_done {J : World → Prop} {listed : Array Bool} {a : Act} (hr : Region.ready md ops listed = []) (h : Q .normal a w) : wpJ P md ops Q J 0 listed a w := ⟨hr, h⟩
/-- Into the region. -/
theorem d_reg {id m : Nat} {L : Array Bool} (J : World → Prop) (hm : P.follows .mixedOrders = true) (hs : ops.size = m) (hL : Array.replicate m false = L)
    (h : wpJ P .any ops Q J m L (mk n f) w.drew) : (Code.region id ops true).wp P Q (mk n f) w := by
  subst hs; subst hL
  exact wp_region_any hm (wpJ_any _ _ _ _ h)

#print axioms d_take
#print axioms d_reg
end Go.Fl
