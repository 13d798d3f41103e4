/- How plain states lie in memory. Conditions: those in the statements. -/
import Derived.Test.YtkfcnibjlmiboaaFxDef
namespace Go.Fx
open Go Go.RowKit Go.Fl Go.Fl.Lk
variable {S : Sig}

inductive RepF (D : Shp S) (σ : Hv) : Value → FV S → Prop
  | bool (b : Bool) : RepF D σ (.bool b) (.bool b)
  | int (k : IntKind) (n : Int) : RepF D σ (.int k n) (.int k n)
  | str (s : ByteArray) : RepF D σ (.string s) (.str s)
  | nils : RepF D σ (.slice none 0 0) .nils
  | nilp : RepF D σ (.pointer none) .nilp
  | nilm : RepF D σ (.map none) .nilm
  | nilf : RepF D σ .nilFunc .nilf
  | sl (T : S.C) (l : List (S.car T)) (a : Option Addr) (cap : Nat) (c : Nat → Nat → Value) (h1 : l.length ≤ cap) (h2 : l.length ≤ 140737488355328)
      (h3 : ∀ (i : Nat) x, l[i]? = some x → ∃ ad : Addr, a = some ad ∧ ∀ j, j < D.size T → σ.cell (ad.add (i * D.size T + j)) = some (c i j))
      (h4 : ∀ (i : Nat) x (j : Nat) s, l[i]? = some x → (D.shape T x)[j]? = some s → RepF D σ (c i j) s) : RepF D σ (.slice a l.length cap) (.sl T l)

theorem RepF.mono {D : Shp S} {σ τ : Hv} {v : Value} {x : FV S} (h : RepF D σ v x) (hs : Sub σ τ) : RepF D τ v x := by
  induction h with
  | sl T l a cap c h1 h2 h3 _ ih =>
    refine .sl T l a cap c h1 h2 (fun i x hx => ?_) (fun i x j s hx hj => ih i x j s hx hj)
    obtain ⟨ad, ha, hc⟩ := h3 i x hx
    exact ⟨ad, ha, fun j hj => hs.cell (hc j hj)⟩
  | _ => constructor
theorem RepF.one {D : Shp S} {σ : Hv} {v : Value} {x : FV S} (h : RepF D σ v x) : v.oneCell' = true := by cases h <;> rfl
theorem RepF.cells {D : Shp S} {σ : Hv} {v : Value} {x : FV S} (h : RepF D σ v x) : v.cells = #[v] := by cases h <;> rfl

/-- A row of frozen cells. -/
def RowF (D : Shp S) (σ : Hv) (cs : List Value) (ss : List (FV S)) : Prop := cs.length = ss.length ∧ ∀ (j : Nat) v s, cs[j]? = some v → ss[j]? = some s → RepF D σ v s
theorem RowF.mono {D : Shp S} {σ τ : Hv} {cs : List Value} {ss : List (FV S)} (h : RowF D σ cs ss) (hs : Sub σ τ) : RowF D τ cs ss := ⟨h.1, fun j v s hj hk => (h.2 j v s hj hk).mono hs⟩

/-- The laws of a program's shapes. -/
structure Shp.Ok (D : Shp S) : Prop where
  len : ∀ T x, (D.shape T x).length = D.size T
  pos : ∀ T, 0 < D.size T
  bld : ∀ T ss x σ cs, D.bld T ss = some x → RowF D σ cs ss → RowF D σ cs (D.shape T x)

abbrev ElF (D : Shp S) (T : S.C) : Hv → List Value → S.car T → Prop := fun σ cs x => RowF D σ cs (D.shape T x)
theorem ElF.mono {D : Shp S} {T : S.C} {σ τ : Hv} {cs : List Value} {x : S.car T} (hs : Sub σ τ) (h : ElF D T σ cs x) : ElF D T τ cs x := RowF.mono h hs

theorem RepF.toRSl {D : Shp S} (hD : D.Ok) {σ : Hv} {v : Value} {T : S.C} {l : List (S.car T)} (h : RepF D σ v (.sl T l)) : RSl (D.size T) (ElF D T) σ v l := by
  cases h with
  | sl _ _ a cap c h1 h2 h3 h4 =>
    refine ⟨a, cap, rfl, h1, h2, fun i x hx => ?_⟩
    obtain ⟨ad, ha, hc⟩ := h3 i x hx
    refine ⟨ad, (List.range (D.size T)).map (c i), ha, by simp, ?_, ?_⟩
    · intro j v hj
      rw [List.getElem?_map] at hj
      rcases Nat.lt_or_ge j (D.size T) with hlt | hge
      · rw [List.getElem?_range hlt] at hj
        cases hj
        rw [addr_add]; exact hc j hlt
      · rw [List.getElem?_eq_none (by simpa using hge)] at hj; cases hj
    · refine ⟨by simp [hD.len], fun j v s hj hs => ?_⟩
      have hlt : j < D.size T := by rw [← hD.len T x]; exact lt_of_getq hs
      rw [List.getElem?_map, List.getElem?_range hlt] at hj
      cases hj
      exact h4 i x j s hx hs
theorem RepF.ofRSl {D : Shp S} (hD : D.Ok) {σ : Hv} {v : Value} {T : S.C} {l : List (S.car T)} (h : RSl (D.size T) (ElF D T) σ v l) : RepF D σ v (.sl T l) := by
  obtain ⟨a, cap, rfl, h1, h2, h3⟩ := h
  have hc : ∃ c : Nat → List Value, ∀ (i : Nat) x, l[i]? = some x → ∃ ad, a = some ad ∧ (c i).length = D.size T ∧ VRow σ (ad.add (i * D.size T)) (c i) ∧ RowF D σ (c i) (D.shape T x) := by
    refine ⟨fun i => if hi : i < l.length then Classical.choose (Classical.choose_spec (h3 i l[i] (List.getElem?_eq_getElem hi))) else [], fun i x hx => ?_⟩
    have hi := lt_of_getq hx
    have hxx : l[i] = x := by rw [List.getElem?_eq_getElem hi] at hx; exact Option.some.inj hx
    simp only [dif_pos hi]
    have := Classical.choose_spec (Classical.choose_spec (h3 i l[i] (List.getElem?_eq_getElem hi)))
    subst hxx
    exact ⟨_, this⟩
  obtain ⟨c, hc⟩ := hc
  refine .sl T l a cap (fun i j => (c i).getD j undef) h1 h2 (fun i x hx => ?_) (fun i x j s hx hj => ?_)
  · obtain ⟨ad, ha, hl, hr, _⟩ := hc i x hx
    refine ⟨ad, ha, fun j hj => ?_⟩
    rw [← addr_add]
    refine hr j _ ?_
    rw [List.getD_eq_getElem?_getD, List.getElem?_eq_getElem (by omega)]; rfl
  · obtain ⟨ad, ha, hl, hr, hR⟩ := hc i x hx
    have hlt : j < (c i).length := by rw [hl, ← hD.len T x]; exact lt_of_getq hj
    refine hR.2 j _ s ?_ hj
    rw [List.getD_eq_getElem?_getD, List.getElem?_eq_getElem hlt]; rfl

/-- What the names of objects stand for. -/
abbrev Nm := Nat → Option Value
def Ext (ν ν' : Nm) : Prop := ∀ o v, ν o = some v → ν' o = some v
theorem Ext.refl (ν : Nm) : Ext ν ν := fun _ _ h => h
theorem Ext.trans {a b c : Nm} (h : Ext a b) (k : Ext b c) : Ext a c := fun o v hv => k o v (h o v hv)

inductive SRep (D : Shp S) (ν : Nm) (σ : Hv) : Value → SV S → Prop
  | f {v : Value} {x : FV S} (h : RepF D σ v x) : SRep D ν σ v (.f x)
  | lit (b : Bool) : SRep D ν σ (.bool b) (.lit b)
  | pb (p : Prop) (d : Decidable p) : SRep D ν σ (.bool (@decide p d)) (.pb p d false)
  | pbn (p : Prop) (d : Decidable p) : SRep D ν σ (.bool (!@decide p d)) (.pb p d true)
  | agg (cs : List Value) (ss : List (SV S)) (hl : cs.length = ss.length) (h : ∀ (j : Nat) v s, cs[j]? = some v → ss[j]? = some s → SRep D ν σ v s) (h1 : ∀ v ∈ cs, v.oneCell' = true) :
      SRep D ν σ (.agg cs.toArray) (.agg ss)
  | tup (cs : List Value) (ss : List (SV S)) (hl : cs.length = ss.length) (h : ∀ (j : Nat) v s, cs[j]? = some v → ss[j]? = some s → SRep D ν σ v s) : SRep D ν σ (.tuple cs.toArray) (.tup ss)
  | arr (cs : List Value) (T : S.C) (N : Nat) (l : List (S.car T)) (hN : l.length = N) (hl : cs.length = l.length * D.size T) (h : ∀ (i : Nat) x, l[i]? = some x → RowF D σ ((cs.drop (i * D.size T)).take (D.size T)) (D.shape T x)) :
      SRep D ν σ (.agg cs.toArray) (.arr T N l)
  | ref (o off b : Nat) (h : ν o = some (.pointer (some ⟨b, 0, none⟩))) : SRep D ν σ (.pointer (some ⟨b, off, none⟩)) (.ref o off)
  | eref (T : S.C) (o i off b m cap : Nat) (h : ν o = some (.slice (some ⟨b, 0, none⟩) m cap)) (hi : i < m) : SRep D ν σ (.pointer (some ⟨b, i * D.size T + off, none⟩)) (.eref T o i off)
  | aref (T : S.C) (N o i off b : Nat) (h : ν o = some (.pointer (some ⟨b, 0, none⟩))) (hi : i < N) : SRep D ν σ (.pointer (some ⟨b, i * D.size T + off, none⟩)) (.aref T N o i off)
  | fptr (ad : Addr) (cs : List Value) (l : List (FV S)) (off : Nat) (h : VRow σ ad cs) (hr : RowF D σ cs l) : SRep D ν σ (.pointer (some (ad.add off))) (.fptr l off)
  | fap (ad : Addr) (cs : List Value) (T : S.C) (N : Nat) (l : List (S.car T)) (hN : l.length = N) (h : VRow σ ad cs) (hl : cs.length = l.length * D.size T) (hr : ∀ (i : Nat) x, l[i]? = some x → RowF D σ ((cs.drop (i * D.size T)).take (D.size T)) (D.shape T x)) :
      SRep D ν σ (.pointer (some ad)) (.fap T N l)
  | hnd (o : Nat) (v : Value) (h : ν o = some v) (h1 : v.oneCell' = true) : SRep D ν σ v (.hnd o)
  | fn (g : Nat) (a b : List Value) (first cap : List (SV S)) (hl : a.length = first.length) (h : ∀ (j : Nat) v s, a[j]? = some v → first[j]? = some s → SRep D ν σ v s)
      (hl' : b.length = cap.length) (h' : ∀ (j : Nat) v s, b[j]? = some v → cap[j]? = some s → SRep D ν σ v s) : SRep D ν σ (.func (.func g) a.toArray b.toArray) (.fn g first cap)
  | und : SRep D ν σ undef .und
  | dead (v : Value) : SRep D ν σ v .dead

theorem SRep.mono {D : Shp S} {ν ν' : Nm} {σ τ : Hv} {v : Value} {s : SV S} (h : SRep D ν σ v s) (hn : Ext ν ν') (hs : Sub σ τ) : SRep D ν' τ v s := by
  induction h with
  | f h => exact .f (h.mono hs)
  | lit b => exact .lit b
  | pb p d => exact .pb p d
  | pbn p d => exact .pbn p d
  | agg cs ss hl _ h1 ih => exact .agg cs ss hl ih h1
  | tup cs ss hl _ ih => exact .tup cs ss hl ih
  | arr cs T N l hN hl h => exact .arr cs T N l hN hl fun i x hx => (h i x hx).mono hs
  | ref o off b h => exact .ref o off b (hn _ _ h)
  | eref T o i off b m cap h hi => exact .eref T o i off b m cap (hn _ _ h) hi
  | aref T N o i off b h hi => exact .aref T N o i off b (hn _ _ h) hi
  | fptr ad cs l off h hr => exact .fptr ad cs l off (h.mono hs) (hr.mono hs)
  | fap ad cs T N l hN h hl hr => exact .fap ad cs T N l hN (h.mono hs) hl fun i x hx => (hr i x hx).mono hs
  | hnd o v h h1 => exact .hnd o v (hn _ _ h) h1
  | fn g a b first cap hl _ hl' _ ih ih' => exact .fn g a b first cap hl ih hl' ih'
  | und => exact .und
  | dead v => exact .dead v

/-- Names that one state knows say the same in another. -/
theorem SRep.transfer {D : Shp S} {ν₁ ν₂ ν' : Nm} {σ₁ σ : Hv} {v₁ v₂ : Value} {s : SV S} (h : SRep D ν₁ σ₁ v₁ s) (k : SRep D ν₂ σ v₂ s) (hn : ∀ o v, ν₁ o = some v → ν' o = ν₂ o) : SRep D ν' σ v₂ s := by
  induction h generalizing v₂ with
  | f h => cases k with | f k => exact .f k
  | lit b => cases k; exact .lit b
  | pb p d => cases k; exact .pb p d
  | pbn p d => cases k; exact .pbn p d
  | agg cs ss hl _ h1 ih =>
    cases k with
    | agg cs' _ hl' k' h1' =>
      refine .agg cs' ss hl' (fun j v s hj hs => ?_) h1'
      obtain ⟨u, hu⟩ := getq (l := cs) (k := j) (by rw [hl]; exact lt_of_getq hs)
      exact ih j u s hu hs (k' j v s hj hs)
  | tup cs ss hl _ ih =>
    cases k with
    | tup cs' _ hl' k' =>
      refine .tup cs' ss hl' (fun j v s hj hs => ?_)
      obtain ⟨u, hu⟩ := getq (l := cs) (k := j) (by rw [hl]; exact lt_of_getq hs)
      exact ih j u s hu hs (k' j v s hj hs)
  | arr cs T N l hN hl h => cases k with | arr cs' _ _ _ hN' hl' h' => exact .arr cs' T N l hN' hl' h'
  | ref o off b h => cases k with | ref _ _ b' h' => exact .ref o off b' (by rw [hn _ _ h]; exact h')
  | eref T o i off b m cap h hi => cases k with | eref _ _ _ _ b' m' cap' h' hi' => exact .eref T o i off b' m' cap' (by rw [hn _ _ h]; exact h') hi'
  | aref T N o i off b h hi => cases k with | aref _ _ _ _ _ b' h' hi' => exact .aref T N o i off b' (by rw [hn _ _ h]; exact h') hi'
  | fptr ad cs l off h hr => cases k with | fptr ad' cs' _ _ h' hr' => exact .fptr ad' cs' l off h' hr'
  | fap ad cs T N l hN h hl hr => cases k with | fap ad' cs' _ _ _ hN' h' hl' hr' => exact .fap ad' cs' T N l hN' h' hl' hr'
  | hnd o v h h1 => cases k with | hnd _ v' h' h1' => exact .hnd o _ (by rw [hn _ _ h]; exact h') h1'
  | fn g a b first cap hl _ hl' _ ih ih' =>
    cases k with
    | fn _ a' b' _ _ kl k1 kl' k2 =>
      refine .fn g a' b' first cap kl (fun j v s hj hs => ?_) kl' (fun j v s hj hs => ?_)
      · obtain ⟨u, hu⟩ := getq (l := a) (k := j) (by rw [hl]; exact lt_of_getq hs)
        exact ih j u s hu hs (k1 j v s hj hs)
      · obtain ⟨u, hu⟩ := getq (l := b) (k := j) (by rw [hl']; exact lt_of_getq hs)
        exact ih' j u s hu hs (k2 j v s hj hs)
  | und => cases k; exact .und
  | dead v => exact .dead _

/-- A row of cells. -/
def RowS (D : Shp S) (ν : Nm) (σ : Hv) (cs : List Value) (ss : List (SV S)) : Prop :=
  cs.length = ss.length ∧ (∀ (j : Nat) v s, cs[j]? = some v → ss[j]? = some s → SRep D ν σ v s) ∧ ∀ v ∈ cs, v.oneCell' = true
theorem RowS.mono {D : Shp S} {ν ν' : Nm} {σ τ : Hv} {cs : List Value} {ss : List (SV S)} (h : RowS D ν σ cs ss) (hn : Ext ν ν') (hs : Sub σ τ) : RowS D ν' τ cs ss :=
  ⟨h.1, fun j v s hj hk => (h.2.1 j v s hj hk).mono hn hs, h.2.2⟩
theorem RowF.toS {D : Shp S} {ν : Nm} {σ : Hv} {cs : List Value} {ss : List (FV S)} (h : RowF D σ cs ss) : RowS D ν σ cs (ss.map SV.f) := by
  refine ⟨by simp [h.1], fun j v s hj hs => ?_, fun v hv => ?_⟩
  · rw [List.getElem?_map] at hs
    rcases hq : ss[j]? with _ | x
    · rw [hq] at hs; cases hs
    · rw [hq] at hs; cases hs
      exact .f (h.2 j v x hj hq)
  · obtain ⟨j, hj⟩ := List.mem_iff_getElem?.1 hv
    obtain ⟨x, hx⟩ := getq (l := ss) (k := j) (by rw [← h.1]; exact lt_of_getq hj)
    exact (h.2 j v x hj hx).one

/-- An object without memory. -/
def triv : HObj := ⟨none, fun _ => True, fun _ _ _ h => h, fun _ _ _ h => by cases h⟩
/-- The elements of an owned slice or of an array. -/
def Els (D : Shp S) (σ : Hv) (T : S.C) (xs : List Value) (l : List (S.car T)) : Prop :=
  xs.length = l.length * D.size T ∧ ∀ (i : Nat) x, l[i]? = some x → RowF D σ ((xs.drop (i * D.size T)).take (D.size T)) (D.shape T x)
theorem Els.mono {D : Shp S} {σ τ : Hv} {T : S.C} {xs : List Value} {l : List (S.car T)} (h : Els D σ T xs l) (hs : Sub σ τ) : Els D τ T xs l := ⟨h.1, fun i x hx => (h.2 i x hx).mono hs⟩
/-- A value that hangs on no memory. -/
def valF : FV S → Value
  | .bool b => .bool b
  | .int k n => .int k n
  | .str s => .string s
  | _ => undef
def keyF : FV S → Bool
  | .bool _ => true
  | .int _ _ => true
  | .str _ => true
  | _ => false
/-- Cells as a value. -/
def asV : List Value → Value
  | [u] => u
  | cs => .agg cs.toArray
def kenc (D : Shp S) (T : S.C) (x : S.car T) : Value := asV ((D.shape T x).map valF)
/-- An element of a map. -/
def ElV (D : Shp S) (σ : Hv) (T : S.C) (v : Value) (x : S.car T) : Prop := ∃ cs, RowF D σ cs (D.shape T x) ∧ v = asV cs
theorem ElV.mono {D : Shp S} {σ τ : Hv} {T : S.C} {v : Value} {x : S.car T} (h : ElV D σ T v x) (hs : Sub σ τ) : ElV D τ T v x := by
  obtain ⟨cs, h1, h2⟩ := h
  exact ⟨cs, h1.mono hs, h2⟩

def ORep (D : Shp S) (ν : Nm) (σ : Hv) (lkc : Nat → Nat → SV S) (o : Nat) : AO S → HObj → Prop
  | .cells ty l, h => ∃ b cs, ν o = some (.pointer (some ⟨b, 0, none⟩)) ∧ h = blk b ty cs ∧ RowS D ν σ cs (resL (lkc o) 0 l)
  | .vec e T l, h => ∃ v xs, ν o = some v ∧ h = vec v e (D.size T) l.length xs ∧ Els D σ T xs l ∧ l.length ≤ 140737488355328
  | .frz T l, h => ∃ v, ν o = some v ∧ h = triv ∧ RepF D σ v (.sl T l)
  | .arr ty T N l, h => ∃ b cs, ν o = some (.pointer (some ⟨b, 0, none⟩)) ∧ h = blk b ty cs ∧ Els D σ T cs l ∧ l.length = N
  | .map K V F, h => ∃ b m, ν o = some (.map (some b)) ∧ h = smapK (kenc D K) b m ∧ ∀ k, ORel (ElV D σ V) (m k) (F k)
  | .iter K V F done cur, h => ∃ r b es clock cv, ν o = some (.pointer (some ⟨r, 0, none⟩)) ∧ h = itrK (kenc D K) r b es clock done cv ∧ σ b = some (.map es clock) ∧ KeysOf (kenc D K) es.toList ∧ MBk es.toList clock ∧
      (∀ k, ORel (ElV D σ V) (lkK (kenc D K) es.toList k) (F k)) ∧ (∀ k, (D.shape K k).all keyF = true) ∧ (∀ a b, kenc D K a = kenc D K b → a = b) ∧ ∀ k y, cur = some (k, y) → ∃ v, cv = some (k, v) ∧ ElV D σ V v y


/-- The laws that tie shapes to a program. -/
structure Shp.OkP (P : Program) (D : Shp S) : Prop where
  ok : D.Ok
  zero : ∀ t T i z, D.code t = some T → P.info? t = some i → i.zero = some z → ∀ σ, RowF D σ z.cells.toList (D.shape T (D.zero T))
  arr : ∀ t T N, D.acode t = some (T, N) → ∃ cs : List Value, (∀ w, (zeroValue t).run P w = .ok (.agg cs.toArray) w) ∧ ∀ σ, Els D σ T cs (List.replicate N (D.zero T))
  map : ∀ t K V, D.mcode t = some (K, V) → ∃ kt et, P.underlying t = some (.map kt et) ∧ KeyOk P kt (kenc D K) ∧ (∀ x, (D.shape K x).all keyF = true) ∧ hasT P et = true ∧ aggQ P et = !Nat.beq (D.size V) 1 ∧ szQ P et = D.size V ∧
    ∃ z, (∀ w, (zeroValue et).run P w = .ok z w) ∧ ∀ σ, ElV D σ V z (D.zero V)
end Go.Fx
