/- Appending a slice that is read; parts of a slice that is read. Conditions: none; every rule speaks of any program. -/
import Derived.Test.YtkfcnibjlmiboaaFlDraw
namespace Go.Fl
open Go Go.RowKit

variable {P : Program} {ops : Array Oper} {Q : Exit → Act → World → Prop} {rest : List Oper} {n : Nat} {f : Fr} {w w' : World} {d : Nat} {t : TypeId} {p : String} {af : Array Edge}
variable {c : Cx} {σ : Hv} {ms ms' : List HObj}

theorem run_append_empty (base : Nat) (t ty e : TypeId) (i : TypeInfo) (size cc : Nat) (ht : P.underlying t = some (.slice e)) (hi : P.info? e = some i)
    (v : Value) (n : Nat) (xs : List Value) (hown : w.ownsRow base e size v n xs) :
    (Builtin.append_ #[t, t] ty #[v, .slice none 0 cc]).run P w = .ok v w := by
  rcases hown.2 with ⟨rfl, rfl⟩ | ⟨g, cap, cur, rfl, _, _, hnc, _⟩
  · simp [Builtin.append_, run_underlying ht, sizeOf, typeInfo, hi, Builtin.lenOf, Builtin.firstCells]
  · simp [Builtin.append_, run_underlying ht, sizeOf, typeInfo, hi, Builtin.lenOf, Builtin.firstCells, hnc, storeCells]

theorem flat_row {α : Type} {enc : α → List Value} {size : Nat} (he : ∀ x, (enc x).length = size) {l : List α} {a : Addr} (hel : ∀ (i : Nat) x, l[i]? = some x → VRow σ (a.add (i * size)) (enc x)) : VRow σ a (l.flatMap enc) := by
  intro j v hj
  rcases Nat.eq_zero_or_pos size with h0 | h0
  · exfalso
    have : l.flatMap enc = [] := by
      rw [List.flatMap_eq_nil_iff]
      intro x _
      exact List.eq_nil_of_length_eq_zero (by rw [he, h0])
    rw [this] at hj; simp at hj
  · have hlen : (l.flatMap enc).length = l.length * size := by
      clear hj hel
      induction l with
      | nil => simp
      | cons x l ih => rw [List.flatMap_cons, List.length_append, ih, he, List.length_cons, Nat.succ_mul]; omega
    have hjl : j < l.length * size := by rw [← hlen]; exact (List.getElem?_eq_some_iff.1 hj).1
    have hi : j / size < l.length := (Nat.div_lt_iff_lt_mul h0).2 hjl
    obtain ⟨x, hx⟩ : ∃ x, l[j / size]? = some x := ⟨_, List.getElem?_eq_getElem hi⟩
    have hat := flat_at he hx
    have hv : (enc x)[j % size]? = some v := by
      rw [← hat, List.getElem?_take, if_pos (Nat.mod_lt _ h0), List.getElem?_drop]
      have : j / size * size + j % size = j := by rw [Nat.mul_comm]; exact Nat.div_add_mod j size
      rw [this]; exact hj
    have := hel _ x hx (j % size) v hv
    rw [addr_add] at this
    have e : j / size * size + j % size = j := by rw [Nat.mul_comm]; exact Nat.div_add_mod j size
    rw [e] at this
    exact this

theorem o_append_rd {α : Type} {enc : α → List Value} {st e : TypeId} {x y : Operand} {i : TypeInfo} {z : Value} {size bytes : Nat} (hu : P.underlying st = some (.slice e)) (hi : P.info? e = some i) (hz : i.zero = some z)
    (hsz : i.size = size) (hby : i.bytes = bytes) (hzs : z.cells.size = size) (hpos : 0 < size) {v yv : Value} {k q : Nat} {xs xs' : List Value} {l : List α} {σ1 : Hv} (hS : St c w σ ms) (hx : ev n f x = v) (hq : ms[q]? = some (vec v e size k xs))
    (hy : ev n f y = yv) (hr : RSl size (REnc enc) σ1 yv l) (hV : View σ1 w) (he : ∀ x, (enc x).length = size) (h1 : ∀ x, ∀ u ∈ enc x, u.oneCell' = true) (hb : (k + l.length) * bytes ≤ 140737488355328) (h63 : k + l.length ≤ maxLen)
    (hxs : xs ++ l.flatMap enc = xs') {Ms : Value → List HObj} (hms : ∀ v', ms.set q (vec v' e size (k + l.length) xs') = Ms v')
    (h : ∀ v' w', v'.oneCell' = true → St c w' σ (Ms v') → wpList P ops Q rest (mk n (upd f d v')) w') :
    wpList P ops Q (⟨some d, .call ⟨.builtin .append, #[x, y], #[st, st]⟩, t, p, af, none⟩ :: rest) (mk n f) w := by
  obtain ⟨a, cc, rfl, g1, g2, hel⟩ := hr
  cases a with
  | none =>
    have hl : l = [] := by
      cases l with
      | nil => rfl
      | cons x l => obtain ⟨ad, cs, h0, _⟩ := hel 0 x rfl; cases h0
    subst hl
    have hr := run_append_empty (P := P) (w := w) 0 st t e i size cc hu hi v k xs (hS.get hq)
    simp only [List.flatMap_nil, List.append_nil] at hxs
    subst hxs
    refine o_val (v := v) rfl rfl ?_ (h v w (vec_one (hS.get hq)) ?_)
    · simp only [execOp, resolve, invoke, builtin, Sem.run_bind, Sem.run_pure, Result.andThen_ok, List.map_toArray, List.map_cons, List.map_nil, hx, hy]
      exact (by simp only [List.length_nil] at *; rw [hr]; rfl)
    · rw [← hms v]
      refine hS.step hq (Keeps.refl _ _) (hS.get hq) (fun k hk => .inl hk) rfl hS.view.none_of_ge
  | some ad =>
    have hrow : VRow σ1 ad (l.flatMap enc) := flat_row he fun i x hx => by
      obtain ⟨ad', cs, h0, _, h2, h3⟩ := hel i x hx
      cases h0
      cases h3
      exact h2
    have hlen : (l.flatMap enc).length = l.length * size := by
      clear hrow hel hms hxs hb h63 g1 g2 hy
      induction l with
      | nil => simp
      | cons x l ih => rw [List.flatMap_cons, List.length_append, ih, he, List.length_cons, Nat.succ_mul]; omega
    exact o_append hu hi hz hsz hby hzs hpos hS hx hq hy hlen (hrow.row hV) (fun u hu => by
      obtain ⟨x, _, hx⟩ := List.mem_flatMap.1 hu
      exact h1 x u hx) hb h63 hxs hms h
/-- A later part of a slice that reads. -/
theorem RSl.drop {α : Type} {size : Nat} {R : Hv → List Value → α → Prop} {a : Option Addr} {len cap : Nat} {l : List α} (h : RSl size R σ (.slice a len cap) l) (k : Nat) (hk : k ≤ l.length) :
    RSl size R σ (.slice (if cap = k then a else a.map (·.add (k * size))) (len - k) (cap - k)) (l.drop k) := by
  obtain ⟨a', cap', h1, h2, h3, h4⟩ := h
  cases h1
  refine ⟨_, cap - k, by rw [List.length_drop], by rw [List.length_drop]; omega, by rw [List.length_drop]; omega, fun i x hx => ?_⟩
  rw [List.getElem?_drop] at hx
  have hil : k + i < l.length := (List.getElem?_eq_some_iff.1 hx).1
  obtain ⟨ad, cs, e1, e2, e3, e4⟩ := h4 (k + i) x hx
  subst e1
  refine ⟨ad.add (k * size), cs, by rw [if_neg (by omega)]; rfl, e2, ?_, e4⟩
  rw [addr_add, ← Nat.add_mul]
  exact e3
/-- Back from a wider view. -/
theorem Grow.back {w1 : World} {σ1 σ2 : Hv} (g : Grow [] σ1 w σ2 w1) (hs : Sub σ σ1) : Grow [] σ w σ w1 :=
  ⟨g.keeps, fun b o hb => g.view b o (g.sub b o (hs b o hb)), .refl _, fun _ _ _ => rfl⟩
end Go.Fl
