/- Flat structs and arrays: equality, and their use as keys of maps. Conditions: those in the statements. -/
import Derived.Test.YtkfcnibjlmiboaaFxRep
import Derived.ChangeKeysEq
import Derived.Laws.StructEq
namespace Go.Fx
open Go Go.RowKit Go.Fl Go.Fl.Lk
variable {S : Sig} {P : Program}

def okV : FK → Value → Prop
  | .int k, v => ∃ n, v = .int k n
  | .bool, v => ∃ b, v = .bool b
  | .str, v => ∃ s, v = .string s
def Conf (ks : List FK) (xs : List Value) : Prop := xs.length = ks.length ∧ ∀ (i : Nat) k v, ks[i]? = some k → xs[i]? = some v → okV k v
theorem bif_none {α : Type} {c : Bool} {x : Option α} {y : α} (h : (bif c then none else x) = some y) : c = false ∧ x = some y := by
  cases c with
  | true => cases h
  | false => exact ⟨rfl, h⟩
theorem bif_some' {α : Type} {c : Bool} {x : Option α} {y : α} (h : (bif c then x else none) = some y) : c = true ∧ x = some y := by
  cases c with
  | true => exact ⟨rfl, h⟩
  | false => cases h
theorem ba_beq (a b : ByteArray) : (a == b) = decide (a = b) := by
  rcases Decidable.em (a = b) with h | h
  · subst h
    rw [decide_eq_true rfl]
    obtain ⟨⟨x⟩⟩ := a
    show ((⟨x⟩ : Array UInt8) == ⟨x⟩) = true
    simp
  · rw [decide_eq_false h]
    obtain ⟨⟨x⟩⟩ := a
    obtain ⟨⟨y⟩⟩ := b
    show ((⟨x⟩ : Array UInt8) == ⟨y⟩) = false
    simp only [beq_eq_false_iff_ne, ne_eq]
    intro e
    exact h (by rw [e])
theorem plain_key {t : TypeId} {k : FK} (h : plainK P t = some k) : P.plainKey t = true := by
  unfold plainK at h
  split at h <;> first | (cases h; done) | (rename_i hu; simp [Program.plainKey, hu])
theorem eq_plain {t : TypeId} {k : FK} (h : plainK P t = some k) (d : Nat) {a b : Value} (ha : okV k a) (hb : okV k b) (w : World) : ∃ r, (Op.equalIn (d + 1) t a b).run P w = .ok r w ∧ (r = true ↔ a = b) := by
  unfold plainK at h
  split at h
  case h_4 => cases h
  · rename_i hu
    cases h
    obtain ⟨x, rfl⟩ := ha
    obtain ⟨y, rfl⟩ := hb
    exact ⟨_, run_equalIn_int w d t _ _ x y hu, by simp⟩
  · rename_i hu
    cases h
    obtain ⟨x, rfl⟩ := ha
    obtain ⟨y, rfl⟩ := hb
    exact ⟨_, run_equalIn_bool' w d t x y hu, by simp⟩
  · rename_i hu
    cases h
    obtain ⟨x, rfl⟩ := ha
    obtain ⟨y, rfl⟩ := hb
    exact ⟨_, run_equalIn_string w d t x y hu, by rw [← beq_toListBytes, ba_beq]; simp⟩
theorem flatFs_get : ∀ {fs : List Field} {i : Nat} {ks : List FK}, flatFs P i fs = some ks → fs.length = ks.length ∧ ∀ (j : Nat) f, fs[j]? = some f → ∃ k, ks[j]? = some k ∧ f.name ≠ "_" ∧ f.offset = i + j ∧ plainK P f.type = some k
  | [], i, ks, h => by cases h; exact ⟨rfl, fun j f h => by simp at h⟩
  | f :: fs, i, ks, h => by
    unfold flatFs at h
    obtain ⟨h1, h⟩ := bif_some' h
    split at h
    case h_2 => cases h
    rename_i k ks' hk hks
    cases h
    obtain ⟨hl, hg⟩ := flatFs_get hks
    simp only [Bool.and_eq_true, decide_eq_true_eq] at h1
    refine ⟨by simp [hl], fun j g hj => ?_⟩
    cases j with
    | zero =>
      cases hj
      exact ⟨k, rfl, h1.1, by simpa using Nat.eq_of_beq_eq_true h1.2, hk⟩
    | succ j =>
      obtain ⟨k', a, b, c, d⟩ := hg j g hj
      exact ⟨k', a, b, by omega, d⟩
theorem conf_at {ks : List FK} {xs : List Value} (hx : Conf ks xs) {i : Nat} {k : FK} (hk : ks[i]? = some k) : ∃ v, xs.toArray[i]? = some v ∧ okV k v := by
  obtain ⟨v, hv⟩ := getq (l := xs) (k := i) (by rw [hx.1]; exact lt_of_getq hk)
  exact ⟨v, by simpa using hv, hx.2 i k v hk hv⟩
theorem eq_fields {ks : List FK} {xs ys : List Value} (hx : Conf ks xs) (hy : Conf ks ys) (d : Nat) (w : World) : ∀ (fs : List Field), (∀ f ∈ fs, f.name ≠ "_" ∧ ∃ k, ks[f.offset]? = some k ∧ plainK P f.type = some k) →
    ∃ r, (Op.eqFields (d + 1) xs.toArray ys.toArray fs).run P w = .ok r w ∧ (r = true ↔ ∀ f ∈ fs, xs[f.offset]? = ys[f.offset]?)
  | [], _ => ⟨true, by simp [Op.eqFields], by simp⟩
  | f :: fs, h => by
    obtain ⟨hn, k, hk, hp⟩ := h f (by simp)
    obtain ⟨r', hr', hi'⟩ := eq_fields hx hy d w fs fun g hg => h g (by simp [hg])
    obtain ⟨a, ha, oa⟩ := conf_at hx hk
    obtain ⟨b, hb, ob⟩ := conf_at hy hk
    obtain ⟨r, hr, hi⟩ := eq_plain hp d oa ob w
    simp only [Op.eqFields, hn, ne_eq, not_false_eq_true, if_true, Sem.run_bind, run_part_plain w (plain_key hp) ha, run_part_plain w (plain_key hp) hb, hr, Result.andThen_ok]
    have e1 : xs[f.offset]? = some a := by simpa using ha
    have e2 : ys[f.offset]? = some b := by simpa using hb
    cases r with
    | false =>
      refine ⟨false, by simp, ?_⟩
      simp only [Bool.false_eq_true, false_iff]
      intro hh
      have := hh f (by simp)
      rw [e1, e2] at this
      exact absurd (hi.2 (Option.some.inj this)) (by simp)
    | true =>
      refine ⟨r', by simpa using hr', ?_⟩
      rw [hi']
      have := hi.1 rfl
      simp [e1, e2, this]
theorem eq_items {ks : List FK} {xs ys : List Value} (hx : Conf ks xs) (hy : Conf ks ys) {e : TypeId} {k : FK} (hp : plainK P e = some k) (d : Nat) (w : World) : ∀ (is : List Nat), (∀ i ∈ is, ks[i]? = some k) →
    ∃ r, (Op.eqItems (d + 1) e 1 xs.toArray ys.toArray is).run P w = .ok r w ∧ (r = true ↔ ∀ i ∈ is, xs[i]? = ys[i]?)
  | [], _ => ⟨true, by simp [Op.eqItems], by simp⟩
  | i :: is, h => by
    have hk := h i (by simp)
    obtain ⟨r', hr', hi'⟩ := eq_items hx hy hp d w is fun g hg => h g (by simp [hg])
    obtain ⟨a, ha, oa⟩ := conf_at hx hk
    obtain ⟨b, hb, ob⟩ := conf_at hy hk
    obtain ⟨r, hr, hi⟩ := eq_plain hp d oa ob w
    simp only [Op.eqItems, Nat.mul_one, Sem.run_bind, run_part_plain w (plain_key hp) ha, run_part_plain w (plain_key hp) hb, hr, Result.andThen_ok]
    have e1 : xs[i]? = some a := by simpa using ha
    have e2 : ys[i]? = some b := by simpa using hb
    cases r with
    | false =>
      refine ⟨false, by simp, ?_⟩
      simp only [Bool.false_eq_true, false_iff]
      intro hh
      have := hh i (by simp)
      rw [e1, e2] at this
      exact absurd (hi.2 (Option.some.inj this)) (by simp)
    | true =>
      refine ⟨r', by simpa using hr', ?_⟩
      rw [hi']
      have := hi.1 rfl
      simp [e1, e2, this]
/-- Flat values are compared cell by cell. -/
theorem eq_flat {t : TypeId} {ks : List FK} (hq : flatQ P t = some ks) {xs ys : List Value} (hx : Conf ks xs) (hy : Conf ks ys) (d : Nat) (w : World) :
    ∃ r, (Op.equalIn (d + 2) t (.agg xs.toArray) (.agg ys.toArray)).run P w = .ok r w ∧ (r = true ↔ xs = ys) := by
  unfold flatQ at hq
  split at hq
  · rename_i fs hu
    obtain ⟨hs, hq⟩ := bif_none hq
    obtain ⟨hl, hg⟩ := flatFs_get hq
    have hfs : P.fieldsOf t = fs := by simp [Program.fieldsOf, hu]
    obtain ⟨r, hr, hi⟩ := eq_fields hx hy d w fs.toList fun f hf => by
      obtain ⟨j, hj⟩ := List.mem_iff_getElem?.1 hf
      obtain ⟨k, a, b, c, e⟩ := hg j f hj
      exact ⟨b, k, by rw [c, Nat.zero_add]; exact a, e⟩
    refine ⟨r, ?_, ?_⟩
    · rw [show d + 2 = (d + 1) + 1 from rfl, run_equalIn_struct w (d + 1) t _ _ (by rw [hfs]; exact hu) hs, hfs]; exact hr
    · rw [hi]
      constructor
      · intro h
        refine List.ext_getElem? fun j => ?_
        rcases Nat.lt_or_ge j ks.length with hj | hj
        · obtain ⟨f, hf⟩ := getq (l := fs.toList) (k := j) (by omega)
          obtain ⟨k, a, b, c, e⟩ := hg j f hf
          have := h f (List.mem_of_getElem? hf)
          rw [c, Nat.zero_add] at this
          exact this
        · rw [List.getElem?_eq_none (by rw [hx.1]; exact hj), List.getElem?_eq_none (by rw [hy.1]; exact hj)]
      · intro h; subst h; simp
  · rename_i n e hu
    obtain ⟨hs, hq⟩ := bif_some' hq
    simp only [Bool.and_eq_true] at hs
    obtain ⟨i, hi⟩ := Option.isSome_iff_exists.1 hs.1
    obtain ⟨k, hk, rfl⟩ := Option.map_eq_some_iff.1 hq
    obtain ⟨r, hr, hri⟩ := eq_items hx hy hk d w (List.range n) fun i hi => by
      rw [List.getElem?_replicate, if_pos (List.mem_range.1 hi)]
    refine ⟨r, ?_, ?_⟩
    · rw [show d + 2 = (d + 1) + 1 from rfl, run_equalIn_array w (d + 1) _ _ hu hi, Nat.eq_of_beq_eq_true hs.2]; exact hr
    · rw [hri]
      have h1 := hx.1
      have h2 := hy.1
      simp only [List.length_replicate] at h1 h2
      constructor
      · intro h
        refine List.ext_getElem? fun j => ?_
        rcases Nat.lt_or_ge j n with hj | hj
        · exact h j (List.mem_range.2 hj)
        · rw [List.getElem?_eq_none (by omega), List.getElem?_eq_none (by omega)]
      · intro h; subst h; simp
  · cases hq
theorem check_plain {t : TypeId} {k : FK} (h : plainK P t = some k) (em : Bool) (d : Nat) {a : Value} (ha : okV k a) (w : World) : (Instr.checkKey em (d + 1) t a).run P w = .ok () w := by
  unfold plainK at h
  split at h
  case h_4 => cases h
  all_goals
    rename_i hu
    cases h
    obtain ⟨x, rfl⟩ := ha
    unfold Instr.checkKey
    simp [Sem.run_bind, run_underlying hu]
theorem check_flat {t : TypeId} {ks : List FK} (hq : flatQ P t = some ks) {xs : List Value} (hx : Conf ks xs) (em : Bool) (d : Nat) (w : World) : (Instr.checkKey em (d + 2) t (.agg xs.toArray)).run P w = .ok () w := by
  unfold flatQ at hq
  split at hq
  · rename_i fs hu
    obtain ⟨hs, hq⟩ := bif_none hq
    obtain ⟨hl, hg⟩ := flatFs_get hq
    rw [show d + 2 = (d + 1) + 1 from rfl, Instr.checkKey]
    simp only [Sem.run_bind, run_underlying hu, Result.andThen_ok]
    rw [← Array.forIn_toList]
    have hall : ∀ f ∈ fs.toList, f.name ≠ "_" ∧ ∃ k, ks[f.offset]? = some k ∧ plainK P f.type = some k := fun f hf => by
      obtain ⟨j, hj⟩ := List.mem_iff_getElem?.1 hf
      obtain ⟨k, a, b, c, e⟩ := hg j f hj
      exact ⟨b, k, by rw [c, Nat.zero_add]; exact a, e⟩
    clear hg hq hl
    generalize fs.toList = L at hall
    induction L with
    | nil => simp
    | cons f L ih =>
      obtain ⟨hn, k, hk, hp⟩ := hall f (by simp)
      obtain ⟨a, ha, oa⟩ := conf_at hx hk
      simp only [List.forIn_cons, Sem.run_bind, hn, ne_eq, not_false_eq_true, if_true, run_part_plain w (plain_key hp) ha, check_plain hp em d oa w, Result.andThen_ok, Sem.run_pure]
      exact ih fun g hg => hall g (by simp [hg])
  · rename_i n e hu
    obtain ⟨hs, hq⟩ := bif_some' hq
    simp only [Bool.and_eq_true] at hs
    obtain ⟨i, hi⟩ := Option.isSome_iff_exists.1 hs.1
    obtain ⟨k, hp, rfl⟩ := Option.map_eq_some_iff.1 hq
    rw [show d + 2 = (d + 1) + 1 from rfl, Instr.checkKey]
    simp only [Sem.run_bind, run_underlying hu, Result.andThen_ok]
    simp only [Std.Legacy.Range.forIn_eq_forIn_range', Std.Legacy.Range.size, Nat.sub_zero, Nat.add_one_sub_one, Nat.div_one]
    have hall : ∀ i ∈ List.range' 0 n, (List.replicate n k)[i]? = some k := fun i hi => by
      rw [List.getElem?_replicate, if_pos (by simpa using hi)]
    generalize List.range' 0 n = is at hall
    induction is with
    | nil => simp
    | cons j is ih =>
      obtain ⟨a, ha, oa⟩ := conf_at hx (hall j (by simp))
      have ha' : xs.toArray[j * P.cellsOf e]? = some a := by rw [Nat.eq_of_beq_eq_true hs.2, Nat.mul_one]; exact ha
      simp only [List.forIn_cons, Sem.run_bind, run_sizeOf w hi, Result.andThen_ok, run_part_plain w (plain_key hp) ha', check_plain hp em d oa w, Sem.run_pure]
      exact ih fun y hy => hall y (by simp [hy])
  · cases hq
theorem valF_inj {a b : FV S} {k : FK} (ha : kindF a = some k) (hb : kindF b = some k) (h : valF a = valF b) : a = b := by
  cases a <;> cases b <;> simp_all [kindF, valF]
theorem okV_valF {a : FV S} {k : FK} (ha : kindF a = some k) : okV k (valF a) := by
  cases a <;> cases ha <;> exact ⟨_, rfl⟩
theorem conf_kenc {l : List (FV S)} {ks : List FK} (h : l.map kindF = ks.map some) : Conf ks (l.map valF) := by
  have hl : l.length = ks.length := by simpa using congrArg List.length h
  refine ⟨by simp [hl], fun i k v hk hv => ?_⟩
  rw [List.getElem?_map] at hv
  obtain ⟨a, ha, rfl⟩ := Option.map_eq_some_iff.1 hv
  have := congrArg (·[i]?) h
  simp only [List.getElem?_map, ha, hk, Option.map_some, Option.some.injEq] at this
  exact okV_valF this
theorem row_inj {l l' : List (FV S)} {ks : List FK} (h : l.map kindF = ks.map some) (h' : l'.map kindF = ks.map some) (he : l.map valF = l'.map valF) : l = l' := by
  have hl : l.length = ks.length := by simpa using congrArg List.length h
  have hl' : l'.length = ks.length := by simpa using congrArg List.length h'
  refine List.ext_getElem? fun i => ?_
  rcases Nat.lt_or_ge i ks.length with hi | hi
  · obtain ⟨a, ha⟩ := getq (l := l) (k := i) (by omega)
    obtain ⟨b, hb⟩ := getq (l := l') (k := i) (by omega)
    obtain ⟨k, hk⟩ := getq (l := ks) (k := i) hi
    have e1 := congrArg (·[i]?) h
    have e2 := congrArg (·[i]?) h'
    have e3 := congrArg (·[i]?) he
    simp only [List.getElem?_map, ha, hb, hk, Option.map_some, Option.some.injEq] at e1 e2 e3
    rw [ha, hb, valF_inj e1 e2 e3]
  · rw [List.getElem?_eq_none (by omega), List.getElem?_eq_none (by omega)]
theorem same_ok {v : Value} {k : FK} (h : okV k v) (n : Nat) : Instr.sameBits n v v = true := by
  cases k with
  | int k => obtain ⟨x, rfl⟩ := h; cases n <;> simp [Instr.sameBits]
  | bool => obtain ⟨x, rfl⟩ := h; cases n <;> simp [Instr.sameBits]
  | str => obtain ⟨x, rfl⟩ := h; cases n <;> simp [Instr.sameBits, ba_beq]
theorem asV_two {l : List Value} (h : 2 ≤ l.length) : asV l = .agg l.toArray := by
  match l, h with
  | [_], h => simp at h
  | [], _ => rfl
  | _ :: _ :: _, _ => rfl
/-- Flat structs and arrays as keys. -/
theorem keyOk_flat {D : Shp S} {K : S.C} {t : TypeId} {ks : List FK} (hq : flatQ P t = some ks) (h2 : 2 ≤ ks.length) (hc : ∀ x, (D.shape K x).map kindF = ks.map some) (hinj : ∀ a b, D.shape K a = D.shape K b → a = b) : KeyOk P t (kenc D K) := by
  have hlen : ∀ x, ((D.shape K x).map (valF (S := S))).length = ks.length := fun x => (conf_kenc (hc x)).1
  have hk : ∀ x, kenc D K x = .agg ((D.shape K x).map valF).toArray := fun x => asV_two (by rw [hlen]; exact h2)
  have hd : ∃ td, P.underlying t = some td ∧ ∀ (a b : Array Value), Instr.sameNow td (.agg a) (.agg b) = none := by
    unfold flatQ at hq
    split at hq
    · rename_i fs hu; exact ⟨_, hu, fun a b => rfl⟩
    · rename_i n e hu; exact ⟨_, hu, fun a b => rfl⟩
    · cases hq
  obtain ⟨td, hu, hs⟩ := hd
  have inj : ∀ a b, kenc D K a = kenc D K b → a = b := fun a b h => by
    rw [hk, hk] at h
    have h : (D.shape K a).map valF = (D.shape K b).map valF := by simpa using h
    exact hinj a b (row_inj (hc a) (hc b) h)
  refine ⟨inj, fun e k w => ?_, fun es k w hes => ?_, fun k w => ?_⟩
  · rw [hk]; exact check_flat hq (conf_kenc (hc k)) e 9998 w
  · have key : ∀ (es : List MapEntry) (i : Nat), KeysOf (kenc D K) es → (Instr.findAsking t (kenc D K k) es i).run P w = .ok (fidx (kenc D K) k es i) w := by
      intro es
      induction es with
      | nil => intro i _; simp [Instr.findAsking, fidx]
      | cons e es ih =>
        intro i h
        obtain ⟨a, ha⟩ := h e (by simp)
        obtain ⟨r, hr, hi⟩ := eq_flat hq (conf_kenc (hc k)) (conf_kenc (hc a)) 9998 w
        have hr' : (Op.equal t (kenc D K k) e.key).run P w = .ok r w := by rw [ha, hk, hk]; exact hr
        simp only [Instr.findAsking, Sem.run_bind, hr', Result.andThen_ok]
        cases r with
        | true =>
          have he := row_inj (hc k) (hc a) (hi.1 rfl)
          have : e.key = kenc D K k := by rw [ha, hinj _ _ he]
          simp [fidx, this]
        | false =>
          have : ¬ e.key = kenc D K k := fun hh => by
            rw [ha] at hh
            have := inj _ _ hh
            subst this
            exact absurd (hi.2 rfl) (by simp)
          simp only [Bool.false_eq_true, if_false, fidx, this]
          exact ih (i + 1) fun x hx => h x (by simp [hx])
    unfold Instr.findKey
    simp only [Sem.run_bind, run_underlying hu, Result.andThen_ok]
    cases es with
    | nil => simp [Instr.findNow, fidx]
    | cons e es =>
      obtain ⟨a, ha⟩ := hes e (by simp)
      have : Instr.findNow td (kenc D K k) (e :: es) 0 = none := by simp only [Instr.findNow, ha, hk, hs]
      rw [this]
      exact key (e :: es) 0 hes
  · unfold Instr.keyThatStays
    have : Instr.sameBits 10000 (kenc D K k) (kenc D K k) = true := by
      rw [hk]
      show (_ && _) = true
      simp only [beq_self_eq_true, Bool.true_and, List.all_eq_true]
      intro q hq'
      obtain ⟨i, hi⟩ := List.mem_iff_getElem?.1 hq'
      simp only [List.getElem?_zip_eq_some] at hi
      obtain ⟨k', hk'⟩ := getq (l := ks) (k := i) (by rw [← hlen k]; exact lt_of_getq hi.1)
      have e : q.1 = q.2 := Option.some.inj (hi.1.symm.trans hi.2)
      rw [← e]
      exact same_ok ((conf_kenc (hc k)).2 i k' q.1 hk' hi.1) _
    simp [this]
theorem keyOk_str {kt : TypeId} (hk : P.underlying kt = some .string) : KeyOk P kt (fun x : ByteArray => .string x) where
  inj a b h := by simpa using h
  check e k w := by unfold Instr.checkKey; simp [Sem.run_bind, run_underlying hk]
  find es k w h := by
    have key : ∀ (es : List MapEntry) (i : Nat), KeysOf (fun x : ByteArray => Value.string x) es → Instr.findNow .string (.string k) es i = some (fidx (fun x : ByteArray => Value.string x) k es i) := by
      intro es
      induction es with
      | nil => intro i _; rfl
      | cons e es ih =>
        intro i h
        obtain ⟨a, ha⟩ := h e (by simp)
        have ih' := ih (i + 1) fun x hx => h x (by simp [hx])
        by_cases hka : k = a
        · subst hka; simp [Instr.findNow, ha, Instr.sameNow, fidx, ba_beq]
        · have hak : ¬ a = k := fun e => hka e.symm
          simp [Instr.findNow, ha, Instr.sameNow, fidx, ba_beq, hka, hak, ih']
    unfold Instr.findKey
    simp [Sem.run_bind, run_underlying hk, key es 0 h]
  stays k w := by unfold Instr.keyThatStays; simp [Instr.sameBits, ba_beq]
end Go.Fx
