/- Diagrams that are built alike in the program's store and in the document's stand for the same functions, and neither store is full. Conditions: those in the statements. -/
import Derived.Test.YtkfcnibjlmiboaaDgTwo
import Derived.Test.YtkfcnibjlmiboaaPuL
namespace Go.Dg5
open Go.Fl Go.Fx Go.Dg

/-! The choices. -/
theorem dLeft_ok {l : List Int} {at_ : Int} {K : Bool → Int → Prop} (h : K (decide (at_ < l.length)) at_) : P_dLeft l at_ K := fun _ => h
theorem dNext_ok {l : List Int} {at_ n : Int} {K : Int → Int → Prop} (hc : ∀ x ∈ l, 0 ≤ x ∧ x < 256) (hl : l.length ≤ 1000) (h0 : 0 ≤ at_) (h1 : at_ ≤ l.length) (hn : 0 < n)
    (h : ∀ r a, 0 ≤ r → r < n → at_ ≤ a → a ≤ l.length → (a = at_ + 1 ∨ a = l.length) → K r a) : P_dNext l at_ n K := by
  unfold P_dNext
  refine dLeft_ok ⟨fun hlt => ?_, fun hlt => h 0 at_ (by omega) hn (by omega) h1 (.inr ?_)⟩
  · have hlt := of_decide_eq_true hlt
    refine ⟨⟨by omega, by omega⟩, ⟨by omega, by omega⟩, ⟨by omega, by omega⟩, fun y hy => ?_⟩
    obtain ⟨y0, y1⟩ := hc y (List.mem_of_getElem? hy)
    exact ⟨⟨by omega, by omega⟩, by omega, h _ _ (Int.tmod_nonneg _ y0) (Int.tmod_lt_of_pos _ hn) (by omega) (by omega) (.inl rfl)⟩
  · have := of_decide_eq_false (Bool.eq_false_iff.2 hlt)
    omega
theorem dWide_ok {l : List Int} {at_ n : Int} {K : Int → Int → Prop} (hc : ∀ x ∈ l, 0 ≤ x ∧ x < 256) (hl : l.length ≤ 1000) (h0 : 0 ≤ at_) (h1 : at_ ≤ l.length) (hn : 0 < n)
    (h : ∀ r a, 0 ≤ r → r < n → at_ ≤ a → a ≤ l.length → (a = at_ + 2 ∨ a = l.length) → K r a) : P_dWide l at_ n K := by
  unfold P_dWide
  refine dNext_ok hc hl h0 h1 (by omega) fun r a a1 a2 a3 a4 a5 => ⟨⟨by omega, by omega⟩, dNext_ok hc hl (by omega) a4 (by omega) fun s b b1 b2 b3 b4 b5 => ⟨⟨by omega, by omega⟩, by omega, ?_⟩⟩
  exact h _ _ (Int.tmod_nonneg _ (by omega)) (Int.tmod_lt_of_pos _ hn) (by omega) b4 (by omega)
theorem dNew_ok {l : List Int} {most : Int} {K : List Int → Int → Prop} (h0 : 0 ≤ most) (h : ∀ l' : List Int, (l'.length : Int) ≤ most → (∀ x ∈ l', x ∈ l) → K l' 0) : P_dNew l most K := by
  unfold P_dNew
  refine Jn1.mk (fun l' => (l'.length : Int) ≤ most ∧ ∀ x ∈ l', x ∈ l) (fun _ => ⟨fun hlt => ⟨⟨by omega, h0, by omega⟩, ?_, fun x hx => ?_⟩, fun hlt => ⟨by omega, fun x hx => hx⟩⟩) fun l' hl' => h l' hl'.1 hl'.2
  · simp only [Int.toNat_zero, List.drop_zero, List.length_take]; omega
  · simp only [Int.toNat_zero, List.drop_zero] at hx
    exact List.mem_of_mem_take hx
theorem holds_ok {n : Int} {K : List Bool → Prop} (h : ∀ l, K l) : P_holds n K := by
  unfold P_holds
  refine ⟨⟨by decide, rfl, by unfold Sml; decide⟩, fun _ => ?_⟩
  refine Lp2.ind (fun (i : Int) (l : List Bool) => 0 ≤ i ∧ i ≤ 6 ∧ l.length = 6) (fun i _ => (6 - i).toNat) (fun i l hI => ?_) ⟨by omega, by omega, by simp⟩
  obtain ⟨h1, h2, h3⟩ := hI
  have e6 : ((List.replicate (Int.toNat 6) false).length : Int) = 6 := by simp
  rw [e6]
  refine ⟨fun hlt => ⟨?_, ⟨h1, by omega⟩, fun y _ => ⟨⟨by omega, by omega⟩, ⟨by omega, by omega, by simpa using h3⟩, by omega⟩⟩, fun _ => h l⟩
  have : Go.IntKind.u64.wrap i = i % 18446744073709551616 := rfl
  rw [this]; omega

/-- Two stores in which the same has been built. -/
structure Md (ns : List Nd) (ids : Nd → Option Int) (full : Bool) (rns : List Nd) (rids : Nd → Option Int) (rfull : Bool) (all : List (Int × Int)) (n : Int) : Prop where
  one : One ns ids full n
  rone : One rns rids rfull n
  eqv : ∀ y ∈ all, Eqv ns rns y.1 y.2
theorem add_ok {pns rns : List Nd} {pids rids : Nd → Option Int} {pfull rfull : Bool} {all : List (Int × Int)} {p r : Int} {K : List Nd → (Nd → Option Int) → Bool → List Nd → (Nd → Option Int) → Bool → List (Int × Int) → Bool → Prop}
    (hP : Nod pns) (hR : Nod rns) (hl : all.length ≤ 100000) (hres : Res pns rns p r) (hK : K pns pids pfull rns rids rfull (if p = -1002 then all else all ++ [(p, r)]) true) : P_add pns pids pfull rns rids rfull all true p r K := by
  unfold P_add
  refine Jn1.mk (fun b => b = true) ?_ fun b hb => ?_
  · refine Cnd.yes ?_ rfl
    rcases hres with ⟨rfl, rfl⟩ | ⟨a, b, _⟩
    · rfl
    · have := a.1
      have := b.1
      rw [decide_eq_false (by omega), decide_eq_false (by omega)]
  · subst hb
    rcases hres with ⟨rfl, rfl⟩ | e
    · exact Cnd.yes rfl (by simpa using hK)
    · have a1 := e.1.1
      have a2 := e.2.1.1
      rw [if_neg (by omega)] at hK
      refine Cnd.no (by omega) (Cnd.no (by omega) (Cnd.yes rfl ?_))
      refine LpH.ind (fun t => 0 ≤ t.1 ∧ t.1 ≤ 64 ∧ t.2 = (true, pns, pfull, rns, rfull, pids, rids, ())) (fun t => (64 - t.1).toNat) (fun t ht => ?_) ⟨by omega, by omega, rfl⟩
      obtain ⟨i, t⟩ := t
      obtain ⟨h1, h2, h3⟩ := ht
      dsimp only at h1 h2 h3
      subst h3
      dsimp only
      refine ⟨fun hlt => holds_ok fun l => pRun_ok hP (rRun_ok hR ?_), fun _ => ⟨by unfold Sml; simp; omega, hK⟩⟩
      rw [if_pos e.1, if_pos e.2.1]
      exact Cnd.yes (e.2.2 _) ⟨⟨by omega, by omega⟩, ⟨by show 0 ≤ i + 1; omega, by show i + 1 ≤ 64; omega, rfl⟩, by show (64 - (i + 1)).toNat < (64 - i).toNat; omega⟩
theorem add_step {ns ns' rns rns' : List Nd} {ids ids' rids rids' : Nd → Option Int} {full full' rfull rfull' : Bool} {all : List (Int × Int)} {n p r : Int} {K : List Nd → (Nd → Option Int) → Bool → List Nd → (Nd → Option Int) → Bool → List (Int × Int) → Bool → Prop}
    (M : Md ns ids full rns rids rfull all n) (hl : all.length ≤ 1000) (A : One ns' ids' full' (n + 63) ∧ One rns' rids' rfull' (n + 63) ∧ ns <+: ns' ∧ rns <+: rns' ∧ Res ns' rns' p r)
    (hK : ∀ all' : List (Int × Int), Md ns' ids' full' rns' rids' rfull' all' (n + 63) → all'.length ≤ all.length + 1 → (∀ y ∈ all, y ∈ all') → K ns' ids' full' rns' rids' rfull' all' true) : P_add ns' ids' full' rns' rids' rfull' all true p r K := by
  obtain ⟨a1, a2, a3, a4, a5⟩ := A
  have up : ∀ y ∈ all, Eqv ns' rns' y.1 y.2 := fun y hy => (M.eqv y hy).pre M.one.inv.nod a1.inv.nod a3 M.rone.inv.nod a2.inv.nod a4
  refine add_ok a1.inv.nod a2.inv.nod (by omega) a5 ?_
  by_cases hp : p = -1002
  · rw [if_pos hp]
    exact hK all ⟨a1, a2, up⟩ (by omega) fun y hy => hy
  · rw [if_neg hp]
    refine hK _ ⟨a1, a2, fun y hy => ?_⟩ (by simp) fun y hy => by simp [hy]
    rcases List.mem_append.1 hy with hy | hy
    · exact up y hy
    · simp only [List.mem_singleton] at hy
      subst hy
      exact a5.resolve_left fun e => hp e.1
theorem made_ok {codes : List Int} {most : Int} {K : List Nd → (Nd → Option Int) → Bool → List Nd → (Nd → Option Int) → Bool → List (Int × Int) → Bool → Prop} (hc : ∀ x ∈ codes, 0 ≤ x ∧ x < 256) (h0 : 0 ≤ most) (h1 : most ≤ 120)
    (h : ∀ pns pids pfull rns rids rfull all, Md pns pids pfull rns rids rfull all 1600 → (-1, -1) ∈ all → all.length ≤ 200 → K pns pids pfull rns rids rfull all true) : P_made codes most K := by
  unfold P_made S_made P_pNew P_rNew
  refine dNew_ok h0 fun l hl hlc => ?_
  have hcl : ∀ x ∈ l, 0 ≤ x ∧ x < 256 := fun x hx => hc x (hlc x hx)
  have hll : l.length ≤ 1000 := by omega
  refine LpH.ind (fun t => ∃ (i : Int) (all : List (Int × Int)) (rns : List Nd) (rfull : Bool) (pns : List Nd) (pfull : Bool) (rids pids : Nd → Option Int), t = (i, all, true, rns, rfull, pns, pfull, rids, pids, ()) ∧
      0 ≤ i ∧ i ≤ 4 ∧ Md pns pids pfull rns rids rfull all 0 ∧ (all.length : Int) ≤ i ∧ (0 < i → (-1, -1) ∈ all)) (fun t => (4 - t.1).toNat) (fun t ht => ?_)
    ⟨_, _, _, _, _, _, _, _, rfl, by omega, by omega, ⟨One.nil (by omega), One.nil (by omega), by simp⟩, by simp, by omega⟩
  obtain ⟨i, all, rns, rfull, pns, pfull, rids, pids, rfl, i0, i4, M, hal, hm⟩ := ht
  dsimp only
  refine ⟨fun hlt => pLeaf_ok (rLeaf_ok ?_), fun hlt => ?_⟩
  · rw [if_pos (by omega)]
    refine add_ok M.one.inv.nod M.rone.inv.nod (by omega) (.inr (.leaf (by omega) (by omega))) ?_
    rw [if_neg (by omega)]
    refine ⟨⟨by omega, by omega⟩, ⟨_, _, _, _, _, _, _, _, rfl, by omega, by omega, ⟨M.one, M.rone, fun y hy => ?_⟩, by simp; omega, fun _ => ?_⟩, by omega⟩
    · rcases List.mem_append.1 hy with hy | hy
      · exact M.eqv y hy
      · simp only [List.mem_singleton] at hy
        subst hy
        exact .leaf (by omega) (by omega)
    · by_cases hi : i = 0
      · subst hi; simp
      · exact List.mem_append.2 (.inl (hm (by omega)))
  · have hi4 : i = 4 := by omega
    subst hi4
    refine LpH.ind (fun t => ∃ (all : List (Int × Int)) (rns : List Nd) (rfull : Bool) (pns : List Nd) (pfull : Bool) (at_ : Int) (pids rids : Nd → Option Int), t = (all, true, rns, rfull, pns, pfull, at_, pids, rids, ()) ∧
        0 ≤ at_ ∧ at_ ≤ l.length ∧ (all.length : Int) ≤ 4 + at_ ∧ (-1, -1) ∈ all ∧ ∃ n : Int, Md pns pids pfull rns rids rfull all n ∧ 5 * n ≤ 63 * (at_ + 4) ∧ (at_ < l.length → 5 * n ≤ 63 * at_)) (fun t => (l.length - t.2.2.2.2.2.2.1).toNat) (fun t ht => ?_)
      ⟨_, _, _, _, _, _, _, _, rfl, by omega, by omega, by omega, hm (by omega), 0, M, by omega, by omega⟩
    clear M hal hm
    obtain ⟨all, rns, rfull, pns, pfull, at_, pids, rids, rfl, a0, a1, hal, hm, n, M, hn, hn'⟩ := ht
    have hpos : 0 < all.length := List.length_pos_of_mem hm
    have fin : K pns pids pfull rns rids rfull all true := h _ _ _ _ _ _ _ ⟨M.one.mono (by omega), M.rone.mono (by omega), M.eqv⟩ hm (by omega)
    dsimp only
    refine dLeft_ok ⟨fun hlt => Cnd.yes rfl fun _ _ _ => ?_, fun _ => fin⟩
    have hlt := of_decide_eq_true hlt
    have hn := hn' hlt
    refine dWide_ok hcl hll a0 a1 (by omega) fun r1 b1 r10 r11 b10 b11 b12 => ⟨by omega, ⟨Int.tmod_nonneg _ r10, Int.tmod_lt_of_pos _ (by omega)⟩, fun x hx => ?_⟩
    refine dNext_ok hcl hll (by omega) b11 (by omega) fun r2 b2 r20 r21 b20 b21 b22 => ⟨⟨r20, r21⟩, fun y hy => ?_⟩
    refine dNext_ok hcl hll (by omega) b21 (by omega) fun r3 b3 r30 r31 b30 b31 b32 => ⟨⟨r30, r31⟩, fun z hz => ?_⟩
    have ex := M.eqv x (List.mem_of_getElem? hx)
    have ey := M.eqv y (List.mem_of_getElem? hy)
    have ez := M.eqv z (List.mem_of_getElem? hz)
    have l1 : Eqv pns rns (-1) (-1) := .leaf (by omega) (by omega)
    have l2 : Eqv pns rns (-2) (-2) := .leaf (by omega) (by omega)
    have hpl := M.one.len
    have hrl := M.rone.len
    refine Jn1.mk (fun s => ∃ (c : Int) (all' : List (Int × Int)) (rns : List Nd) (rfull : Bool) (pns : List Nd) (pfull : Bool) (rids pids : Nd → Option Int), s = (c, all', true, rns, rfull, pns, pfull, rids, pids, ()) ∧
        b3 ≤ c ∧ c ≤ l.length ∧ (c = l.length ∨ at_ + 5 ≤ c) ∧ all'.length ≤ all.length + 1 ∧ (-1, -1) ∈ all' ∧ Md pns pids pfull rns rids rfull all' (n + 63)) ?_ fun s hs => ?_
    · refine dNext_ok hcl hll (by omega) b31 (by omega) fun op b4 _ _ b40 b41 b42 => ?_
      have put : ∀ {c : Int} {all' : List (Int × Int)} {rns' : List Nd} {rfull' : Bool} {pns' : List Nd} {pfull' : Bool} {rids' pids' : Nd → Option Int}, b4 ≤ c → c ≤ l.length → all'.length ≤ all.length + 1 → (∀ y ∈ all, y ∈ all') → Md pns' pids' pfull' rns' rids' rfull' all' (n + 63) →
          ∃ (c_1 : Int) (all'_1 : List (Int × Int)) (rns : List Nd) (rfull : Bool) (pns : List Nd) (pfull : Bool) (rids pids : Nd → Option Int), (c, all', true, rns', rfull', pns', pfull', rids', pids', ()) = (c_1, all'_1, true, rns, rfull, pns, pfull, rids, pids, ()) ∧
        b3 ≤ c_1 ∧ c_1 ≤ l.length ∧ (c_1 = l.length ∨ at_ + 5 ≤ c_1) ∧ all'_1.length ≤ all.length + 1 ∧ (-1, -1) ∈ all'_1 ∧ Md pns pids pfull rns rids rfull all'_1 (n + 63) :=
        fun c1 c2 h1 h2 h3 => ⟨_, _, _, _, _, _, _, _, rfl, by omega, c2, by omega, h1, h2 _ hm, h3⟩
      refine Jn1.mk (fun _ => True) ⟨fun _ => trivial, fun _ => trivial⟩ fun b _ => ⟨fun _ => ?_, fun _ => ⟨fun _ => ?_, fun _ => ⟨fun _ => ?_, fun _ => ⟨fun _ => ?_, fun _ => ⟨fun _ => ?_, fun _ => ⟨fun _ => ?_, fun _ => ?_⟩⟩⟩⟩⟩⟩
      · refine dNext_ok hcl hll (by omega) b41 (by omega) fun t c _ t6 c0 c1 _ => pNode_ok (by omega) ?_
        generalize hq : node pns pids pfull t x.1 y.1 = q
        obtain ⟨p', pns', pids', pfull'⟩ := q
        refine rNode_ok (by omega) ?_
        generalize hq' : node rns rids rfull t x.2 y.2 = q'
        obtain ⟨r', rns', rids', rfull'⟩ := q'
        exact add_step M (by omega) (two_node M.one M.rone (by omega) t6 ex ey hq hq') fun all' M' h1 h2 => put c0 c1 h1 h2 M'
      · refine dNext_ok hcl hll (by omega) b41 (by omega) fun t c _ t6 c0 c1 _ => pNode_ok (by omega) ?_
        generalize hq : node pns pids pfull t (-2) (-1) = q
        obtain ⟨p', pns', pids', pfull'⟩ := q
        refine rNode_ok (by omega) ?_
        generalize hq' : node rns rids rfull t (-2) (-1) = q'
        obtain ⟨r', rns', rids', rfull'⟩ := q'
        exact add_step M (by omega) (two_node M.one M.rone (by omega) t6 l2 l1 hq hq') fun all' M' h1 h2 => put c0 c1 h1 h2 M'
      · refine pChoose_ok M.one.inv (by omega) fun p' pns' pids' pfull' C => rChoose_ok M.rone.inv (by omega) fun r' rns' rids' rfull' C' => ?_
        exact add_step M (by omega) (two_op M.one M.rone (by omega) ⟨fun a => ⟨ex.2.1, ex.cond.1 a.2.1, ey.2.1, ez.2.1⟩, fun a => ⟨ex.1, ex.cond.2 a.2.1, ey.1, ez.1⟩⟩ (fun _ => ⟨ex, ey, ez⟩) C.op C'.op) fun all' M' h1 h2 => put (by omega) b41 h1 h2 M'
      · refine pAnd_ok M.one.inv (by omega) fun p' pns' pids' pfull' C => rAnd_ok M.rone.inv (by omega) fun r' rns' rids' rfull' C' => ?_
        exact add_step M (by omega) (two_op M.one M.rone (by omega) ⟨fun a => ⟨ex.2.1, ex.cond.1 a.2.1, ey.2.1, ey.cond.1 a.2.2.2⟩, fun a => ⟨ex.1, ex.cond.2 a.2.1, ey.1, ey.cond.2 a.2.2.2⟩⟩ (fun _ => ⟨ex, ey, l1⟩) C C') fun all' M' h1 h2 => put (by omega) b41 h1 h2 M'
      · refine pOr_ok M.one.inv (by omega) fun p' pns' pids' pfull' C => rOr_ok M.rone.inv (by omega) fun r' rns' rids' rfull' C' => ?_
        exact add_step M (by omega) (two_op M.one M.rone (by omega) ⟨fun a => ⟨ex.2.1, ex.cond.1 a.2.1, ey.2.1, ey.cond.1 a.2.2.2⟩, fun a => ⟨ex.1, ex.cond.2 a.2.1, ey.1, ey.cond.2 a.2.2.2⟩⟩ (fun _ => ⟨ex, l2, ey⟩) C C') fun all' M' h1 h2 => put (by omega) b41 h1 h2 M'
      · refine pNot_ok M.one.inv (by omega) fun p' pns' pids' pfull' C => rNot_ok M.rone.inv (by omega) fun r' rns' rids' rfull' C' => ?_
        exact add_step M (by omega) (two_op M.one M.rone (by omega) ⟨fun a => ⟨ex.2.1, ex.cond.1 a.2⟩, fun a => ⟨ex.1, ex.cond.2 a.2⟩⟩ (fun _ => ⟨ex, l1, l2⟩) C C') fun all' M' h1 h2 => put (by omega) b41 h1 h2 M'
      · exact put (by omega) b41 (by omega) (fun y hy => hy) ⟨M.one.mono (by omega), M.rone.mono (by omega), M.eqv⟩
    · obtain ⟨c, all', rns', rfull', pns', pfull', rids', pids', rfl, c0, c1, c2, hl', hm', M'⟩ := hs
      dsimp only
      refine fun _ => ⟨fun hbig => ?_, fun _ => ⟨⟨_, _, _, _, _, _, _, _, rfl, by omega, c1, by omega, hm', n + 63, M', by omega, by omega⟩, by omega⟩⟩
      omega
end Go.Dg5
