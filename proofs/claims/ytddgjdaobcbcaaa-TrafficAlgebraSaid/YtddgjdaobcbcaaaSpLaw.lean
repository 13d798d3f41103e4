/- Sets of buckets as lists of spans: plain laws, no program. Conditions: none. -/
namespace Go.Fl.Sp

/-- Whether a bucket lies in one of the spans. -/
def cov (S : List (Int × Int)) (i : Nat) : Bool := S.any fun s => decide (s.1 ≤ (i : Int)) && decide ((i : Int) < s.2)
def lo (s : Int × Int) : Int := max s.1 0
def hi (s : Int × Int) : Int := min s.2 10000
/-- What one span adds at a place. -/
def d1 (s : Int × Int) (i : Nat) : Int := if lo s < hi s then (if (i : Int) = lo s then 1 else 0) - (if (i : Int) = hi s then 1 else 0) else 0
def dep : List (Int × Int) → Nat → Int
  | [], _ => 0
  | s :: S, i => dep S i + d1 s i
def psum (D : Nat → Int) : Nat → Int
  | 0 => 0
  | b + 1 => psum D b + D b

theorem dep_snoc (S : List (Int × Int)) (s : Int × Int) (i : Nat) : dep (S ++ [s]) i = dep S i + d1 s i := by
  induction S with
  | nil => simp [dep]
  | cons a S ih => simp only [List.cons_append, dep, ih]; omega
theorem d1_bound (s : Int × Int) (i : Nat) : -1 ≤ d1 s i ∧ d1 s i ≤ 1 := by
  unfold d1; split
  · split <;> split <;> omega
  · omega
theorem dep_bound (S : List (Int × Int)) (i : Nat) : -(S.length : Int) ≤ dep S i ∧ dep S i ≤ S.length := by
  induction S with
  | nil => simp [dep]
  | cons a S ih => have := d1_bound a i; simp only [dep, List.length_cons]; omega
theorem psum_d1 (s : Int × Int) (b : Nat) (hb : b ≤ 10000) : psum (d1 s) b = if lo s < hi s then (if lo s < (b : Int) then 1 else 0) - (if hi s < (b : Int) then 1 else 0) else 0 := by
  have h0 : 0 ≤ lo s := by unfold lo; omega
  induction b with
  | zero => simp only [psum]; split <;> (try split) <;> (try split) <;> omega
  | succ b ih =>
    rw [psum, ih (by omega), d1]
    by_cases h : lo s < hi s
    · simp only [if_pos h]
      split <;> split <;> split <;> split <;> (try split) <;> (try split) <;> omega
    · simp only [if_neg h]; omega
theorem psum_dep (S : List (Int × Int)) (b : Nat) : psum (dep S) b = (S.map fun s => psum (d1 s) b).sum := by
  induction S with
  | nil => induction b with
    | zero => rfl
    | succ b ih => rw [psum, ih]; rfl
  | cons a S ih =>
    simp only [List.map_cons, List.sum_cons, ← ih]
    clear ih
    induction b with
    | zero => rfl
    | succ b ih => rw [psum, psum, psum, ih]; show _ = psum (d1 a) b + d1 a b + (psum (dep S) b + dep S b); show _ + (dep S b + d1 a b) = _; omega
theorem psum_nonneg (S : List (Int × Int)) (b : Nat) (hb : b < 10000) : 0 ≤ psum (dep S) (b + 1) ∧ psum (dep S) (b + 1) ≤ S.length ∧ (0 < psum (dep S) (b + 1) ↔ cov S b = true) := by
  rw [psum_dep]
  induction S with
  | nil => simp [cov]
  | cons a S ih =>
    have h1 := psum_d1 a (b + 1) (by omega)
    have hc : (cov (a :: S) b = true) ↔ (a.1 ≤ (b : Int) ∧ (b : Int) < a.2) ∨ cov S b = true := by simp [cov]
    rw [List.map_cons, List.sum_cons, hc]
    have key : psum (d1 a) (b + 1) = if a.1 ≤ (b : Int) ∧ (b : Int) < a.2 then 1 else 0 := by
      rw [h1]; unfold lo hi
      by_cases hh : a.1 ≤ (b : Int) ∧ (b : Int) < a.2
      · rw [if_pos hh, if_pos (by omega), if_pos (by omega), if_neg (by omega)]; rfl
      · rw [if_neg hh]
        split
        · split <;> split <;> omega
        · rfl
    rw [key]
    obtain ⟨i1, i2, i3⟩ := ih
    simp only [List.length_cons]
    by_cases hh : a.1 ≤ (b : Int) ∧ (b : Int) < a.2
    · rw [if_pos hh]
      refine ⟨by omega, by omega, fun _ => .inl hh, fun _ => by omega⟩
    · rw [if_neg hh]
      refine ⟨by omega, by omega, fun h => .inr (i3.1 (by omega)), fun h => ?_⟩
      have := i3.2 (h.resolve_left hh); omega
theorem cov_psum (S : List (Int × Int)) (b : Nat) (hb : b < 10000) : decide (0 < psum (dep S) (b + 1)) = cov S b := by
  have h := (psum_nonneg S b hb).2.2
  cases hc : cov S b
  · rw [decide_eq_false]; intro h2; rw [h.1 h2] at hc; cases hc
  · exact decide_eq_true (h.2 hc)

/-- The steps of the walk over one span. -/
theorem dep_step (S : List (Int × Int)) (s : Int × Int) (a b : Nat) (ha : (a : Int) = lo s) (hb : (b : Int) = hi s) (h : lo s < hi s) :
    ∀ i, (if i = b then (if b = a then dep S a + 1 else dep S b) - 1 else if i = a then dep S a + 1 else dep S i) = dep (S ++ [s]) i := by
  intro i
  rw [dep_snoc, d1, if_pos h]
  have hab : b ≠ a := by omega
  rw [if_neg hab]
  by_cases h1 : i = b
  · subst h1; rw [if_pos rfl, if_neg (by omega), if_pos (by omega)]; omega
  · rw [if_neg h1]
    by_cases h2 : i = a
    · subst h2; rw [if_pos rfl, if_pos (by omega), if_neg (by omega)]; omega
    · rw [if_neg h2, if_neg (by omega), if_neg (by omega)]; omega
theorem dep_skip (S : List (Int × Int)) (s : Int × Int) (h : ¬ lo s < hi s) (i : Nat) : dep (S ++ [s]) i = dep S i := by
  rw [dep_snoc, d1, if_neg h]; omega

/-- The spans of the first n buckets of a set. -/
def runs (p : Nat → Bool) : Nat → List (Int × Int)
  | 0 => []
  | n + 1 => if p n then (match (runs p n).getLast? with
      | some s => if s.2 = (n : Int) then (runs p n).dropLast ++ [(s.1, (n : Int) + 1)] else runs p n ++ [((n : Int), (n : Int) + 1)]
      | none => runs p n ++ [((n : Int), (n : Int) + 1)]) else runs p n

theorem runs_len (p : Nat → Bool) (n : Nat) : (runs p n).length ≤ n := by
  induction n with
  | zero => simp [runs]
  | succ n ih =>
    rw [runs]
    split
    · split
      · split
        · simp; omega
        · simp; omega
      · simp; omega
    · omega
theorem runs_congr {p q : Nat → Bool} {n : Nat} (h : ∀ i, i < n → p i = q i) : runs p n = runs q n := by
  induction n with
  | zero => rfl
  | succ n ih => rw [runs, runs, ih (fun i hi => h i (by omega)), h n (by omega)]

/-- All that is known of the runs: they ascend, do not touch, lie below n, and cover just the set. -/
theorem runs_last (p : Nat → Bool) (n : Nat) : ∀ s, (runs p n).getLast? = some s → s.2 ≤ (n : Int) ∧ 0 ≤ s.1 ∧ s.1 < s.2 ∧ (s.2 = (n : Int) ↔ 0 < n ∧ p (n - 1) = true) := by
  induction n with
  | zero => intro s h; simp [runs] at h
  | succ n ih =>
    intro s h
    rw [runs] at h
    by_cases hp : p n = true
    · rw [if_pos hp] at h
      cases hl : (runs p n).getLast? with
      | none =>
        rw [hl] at h; simp at h; subst h
        simp [hp]; omega
      | some t =>
        rw [hl] at h
        have ht := ih t hl
        by_cases ht2 : t.2 = (n : Int)
        · simp only [if_pos ht2, List.getLast?_append, List.getLast?_singleton, Option.some_or, Option.some.injEq] at h
          subst h
          simp [hp]; omega
        · simp only [if_neg ht2, List.getLast?_append, List.getLast?_singleton, Option.some_or, Option.some.injEq] at h
          subst h
          simp [hp]; omega
    · rw [if_neg hp] at h
      have hs := ih s h
      refine ⟨by omega, hs.2.1, hs.2.2.1, ⟨fun h2 => by omega, fun h2 => ?_⟩⟩
      simp at h2
      exact absurd h2 hp
theorem runs_none (p : Nat → Bool) (n : Nat) (h : (runs p n).getLast? = none) : ∀ i, i < n → p i = false := by
  induction n with
  | zero => intro i hi; omega
  | succ n ih =>
    rw [runs] at h
    by_cases hp : p n = true
    · rw [if_pos hp] at h
      cases hl : (runs p n).getLast? with
      | none => rw [hl] at h; simp at h
      | some t =>
        rw [hl] at h
        by_cases ht2 : t.2 = (n : Int)
        · simp [if_pos ht2] at h
        · simp [if_neg ht2] at h
    · rw [if_neg hp] at h
      intro i hi
      rcases Nat.lt_succ_iff_lt_or_eq.1 hi with h1 | rfl
      · exact ih h i h1
      · simpa using hp
theorem runs_cov (p : Nat → Bool) (n : Nat) : ∀ i, cov (runs p n) i = (decide (i < n) && p i) := by
  induction n with
  | zero => intro i; simp [runs, cov]
  | succ n ih =>
    intro i
    rw [runs]
    have happ : ∀ (A : List (Int × Int)) s, cov (A ++ [s]) i = (cov A i || (decide (s.1 ≤ (i : Int)) && decide ((i : Int) < s.2))) := by intro A s; simp [cov]
    have step : (decide (i < n + 1) && p i) = ((decide (i < n) && p i) || (decide (i = n) && p i)) := by
      by_cases h1 : i < n
      · simp [h1, show i < n + 1 by omega, show i ≠ n by omega]
      · by_cases h2 : i = n
        · subst h2; simp
        · simp [h1, h2, show ¬ i < n + 1 by omega]
    by_cases hp : p n = true
    · rw [if_pos hp]
      have new : (decide ((n : Int) ≤ (i : Int)) && decide ((i : Int) < (n : Int) + 1)) = decide (i = n) := by
        by_cases h2 : i = n
        · subst h2; simp; omega
        · rw [decide_eq_false h2]
          by_cases h3 : n ≤ i
          · rw [decide_eq_false (show ¬ (i : Int) < (n : Int) + 1 by omega)]; simp
          · rw [decide_eq_false (show ¬ (n : Int) ≤ (i : Int) by omega)]; simp
      have pin : (decide (i = n) && p i) = decide (i = n) := by
        by_cases h2 : i = n
        · subst h2; simp [hp]
        · simp [h2]
      cases hl : (runs p n).getLast? with
      | none =>
        simp only
        rw [happ, ih i, step, pin]
        simp only [new]
      | some t =>
        have ht := runs_last p n t hl
        by_cases ht2 : t.2 = (n : Int)
        · simp only [if_pos ht2]
          have hne : runs p n = (runs p n).dropLast ++ [t] := by
            have hne0 : runs p n ≠ [] := by intro e; rw [e] at hl; cases hl
            rw [List.getLast?_eq_some_getLast hne0] at hl
            have := List.dropLast_concat_getLast hne0
            rw [← this]
            congr 2
            simp [this]
            exact Option.some.inj hl
          have ihe := ih i
          rw [hne, happ] at ihe
          rw [happ, step, pin, ← ihe, Bool.or_assoc]
          congr 1
          by_cases h2 : i = n
          · subst h2
            rw [decide_eq_true (show t.1 ≤ (i : Int) by omega), decide_eq_true (show (i : Int) < (i : Int) + 1 by omega)]; simp
          · rw [decide_eq_false h2, Bool.or_false, ht2]
            congr 1
            rw [decide_eq_decide]; omega
        · simp only [if_neg ht2]
          rw [happ, ih i, step, pin]
          simp only [new]
    · rw [if_neg hp, ih i, step]
      have : (decide (i = n) && p i) = false := by
        by_cases h2 : i = n
        · subst h2; simpa using hp
        · simp [h2]
      rw [this, Bool.or_false]

/-- How many of the first n buckets. -/
def cnt (p : Nat → Bool) : Nat → Nat
  | 0 => 0
  | n + 1 => cnt p n + if p n then 1 else 0
theorem cnt_le (p : Nat → Bool) (n : Nat) : cnt p n ≤ n := by
  induction n with
  | zero => simp [cnt]
  | succ n ih => rw [cnt]; split <;> omega
theorem cnt_congr {p q : Nat → Bool} {n : Nat} (h : ∀ i, i < n → p i = q i) : cnt p n = cnt q n := by
  induction n with
  | zero => rfl
  | succ n ih => rw [cnt, cnt, ih (fun i hi => h i (by omega)), h n (by omega)]

theorem flat_take {ls : List (List (Int × Int))} {k : Nat} {x : List (Int × Int)} (h : ls[k]? = some x) : (ls.take (k + 1)).flatten = (ls.take k).flatten ++ x := by
  rw [List.take_add_one, h]; simp
theorem part_le {ls : List (List (Int × Int))} {k j : Nat} {x : List (Int × Int)} (h : ls[k]? = some x) (hj : j ≤ x.length) : ((ls.take k).flatten ++ x.take j).length ≤ ls.flatten.length := by
  have h1 : ls.flatten = (ls.take (k + 1)).flatten ++ (ls.drop (k + 1)).flatten := by rw [← List.flatten_append, List.take_append_drop]
  rw [h1, flat_take h]
  simp only [List.length_append, List.length_take]
  omega

theorem set_step (S : List (Int × Int)) (k : Nat) (h : k < 10000) (i : Nat) : (if i = k then decide (0 < psum (dep S) k + dep S k) else (decide (i < k) && cov S i)) = (decide (i < k + 1) && cov S i) := by
  by_cases h1 : i = k
  · subst h1
    rw [if_pos rfl, decide_eq_true (show i < i + 1 by omega), Bool.true_and]
    exact cov_psum S i h
  · rw [if_neg h1]; congr 1; rw [decide_eq_decide]; omega
theorem all_step (S : List (Int × Int)) (k i : Nat) (h : i < k) : (decide (i < k) && cov S i) = cov S i := by simp [h]

theorem runs_no {p : Nat → Bool} {k : Nat} (h : p k = false) : runs p (k + 1) = runs p k := by rw [runs, h]; rfl
theorem last_at {l : List (Int × Int)} {s : Int × Int} (h : l[l.length - 1]? = some s) : l.getLast? = some s := by rw [List.getLast?_eq_getElem?]; exact h
theorem runs_ext {p : Nat → Bool} {k : Nat} {s : Int × Int} (h : p k = true) (hs : (runs p k)[(runs p k).length - 1]? = some s) (h2 : s.2 = (k : Int)) : runs p (k + 1) = (runs p k).set ((runs p k).length - 1) (s.1, (k : Int) + 1) := by
  rw [runs, if_pos h, last_at hs]
  simp only [if_pos h2]
  have hne : runs p k ≠ [] := by intro e; rw [e] at hs; simp at hs
  generalize runs p k = l at hne
  apply List.ext_getElem?
  intro i
  have hpos : 0 < l.length := List.length_pos_iff.2 hne
  rw [List.getElem?_set]
  by_cases hi : l.length - 1 = i
  · subst hi
    rw [if_pos rfl, if_pos (by omega), List.getElem?_append_right (by simp)]
    simp
  · rw [if_neg hi]
    by_cases hlt : i < l.length - 1
    · rw [List.getElem?_append_left (by simpa using hlt), List.getElem?_dropLast, if_pos hlt]
    · rw [List.getElem?_eq_none (by simp; omega), List.getElem?_eq_none (by omega)]
theorem runs_new {p : Nat → Bool} {k : Nat} (h : p k = true) (h2 : ∀ s, (runs p k)[(runs p k).length - 1]? = some s → s.2 ≠ (k : Int)) : runs p (k + 1) = runs p k ++ [((k : Int), (k : Int) + 1)] := by
  rw [runs, if_pos h]
  cases hl : (runs p k).getLast? with
  | none => rfl
  | some s =>
    rw [List.getLast?_eq_getElem?] at hl
    simp only [if_neg (h2 s hl)]

theorem cov_two (A B : List (Int × Int)) (i : Nat) : cov [A, B].flatten i = (cov A i || cov B i) := by simp [cov]
theorem cov_one (A : List (Int × Int)) (i : Nat) : cov [A].flatten i = cov A i := by simp [cov]
theorem cov_nil (i : Nat) : cov [] i = false := rfl
theorem runs_prev {p : Nat → Bool} {k : Nat} (h0 : 0 < k) (hp : p (k - 1) = true) : ∃ s, (runs p k)[(runs p k).length - 1]? = some s ∧ s.2 = (k : Int) := by
  cases hl : (runs p k).getLast? with
  | none => have := runs_none p k hl (k - 1) (by omega); rw [this] at hp; cases hp
  | some s => exact ⟨s, by rw [← hl, List.getLast?_eq_getElem?], ((runs_last p k s hl).2.2.2).2 ⟨h0, hp⟩⟩
theorem runs_noprev {p : Nat → Bool} {k : Nat} (h : ¬ (0 < k ∧ p (k - 1) = true)) : ∀ s, (runs p k)[(runs p k).length - 1]? = some s → s.2 ≠ (k : Int) := by
  intro s hs he
  exact h (((runs_last p k s (last_at hs)).2.2.2).1 he)
/-- The first n of a set: what is left of n behind k buckets. -/
def leftN (p : Nat → Bool) (n : Int) : Nat → Int
  | 0 => n
  | k + 1 => if p k = true ∧ 0 < leftN p n k then leftN p n k - 1 else leftN p n k
def firstP (p : Nat → Bool) (n : Int) (k : Nat) : Bool := p k && decide (0 < leftN p n k)
theorem leftN_le (p : Nat → Bool) (n : Int) (k : Nat) : leftN p n k ≤ n ∧ (n ≤ 0 → leftN p n k = n) ∧ (0 ≤ n → 0 ≤ leftN p n k) := by
  induction k with
  | zero => simp [leftN]
  | succ k ih =>
    rw [leftN]
    split <;> omega
theorem leftN_congr {p q : Nat → Bool} {n : Int} {k : Nat} (h : ∀ i, i < k → p i = q i) : leftN p n k = leftN q n k := by
  induction k with
  | zero => rfl
  | succ k ih => rw [leftN, leftN, ih (fun i hi => h i (by omega)), h k (by omega)]
theorem firstP_congr {p q : Nat → Bool} {n : Int} {k : Nat} (h : ∀ i, i ≤ k → p i = q i) : firstP p n k = firstP q n k := by
  rw [firstP, firstP, leftN_congr (fun i hi => h i (by omega)), h k (by omega)]
theorem runs_below (k : Nat) (hk : 0 < k) (n : Nat) : runs (fun i => decide (i < k)) n = if n = 0 then [] else [(0, ((min n k : Nat) : Int))] := by
  induction n with
  | zero => rfl
  | succ n ih =>
    rw [runs, ih]
    by_cases h0 : n = 0
    · subst h0; simp [hk]; omega
    · by_cases h : n < k
      · have h1 : min n k = n := by omega
        have h2 : min (n + 1) k = n + 1 := by omega
        rw [h1, h2]
        simp [h0, h]
      · have h1 : min n k = k := by omega
        have h2 : min (n + 1) k = k := by omega
        rw [h1, h2]
        simp [h0, h]
theorem cnt_below (k n : Nat) : cnt (fun i => decide (i < k)) n = min n k := by
  induction n with
  | zero => simp [cnt]
  | succ n ih => rw [cnt, ih]; by_cases h : n < k <;> simp [h] <;> omega
/-- The example of the chapter. -/
theorem awake_cov (i : Nat) : cov [(5, 9), (0, 5), (7, 7)] i = decide (i < 9) := by
  unfold cov
  rw [Bool.eq_iff_iff]
  simp
  omega
theorem awake_runs : runs (cov [(5, 9), (0, 5), (7, 7)]) 10000 = [(0, 9)] := by
  rw [runs_congr (fun i _ => awake_cov i), runs_below 9 (by omega)]; rfl
theorem awake_cnt : cnt (cov [(0, 9)]) 10000 = 9 := by
  rw [cnt_congr (q := fun i => decide (i < 9)) (fun i _ => by unfold cov; rw [Bool.eq_iff_iff]; simp; omega), cnt_below]; rfl
/-- The sizes of a union and of a common part add up. -/
theorem cnt_add (p q : Nat → Bool) (n : Nat) : cnt (fun i => p i || q i) n + cnt (fun i => p i && q i) n = cnt p n + cnt q n := by
  induction n with
  | zero => rfl
  | succ n ih => rw [cnt, cnt, cnt, cnt]; cases p n <;> cases q n <;> simp <;> omega
theorem cnt_part (p q : Nat → Bool) (n : Nat) : cnt (fun i => p i && q i) n + cnt (fun i => p i && !q i) n = cnt p n := by
  induction n with
  | zero => rfl
  | succ n ih => rw [cnt, cnt, cnt]; cases p n <;> cases q n <;> simp <;> omega
theorem runs_empty {p : Nat → Bool} {n : Nat} (h : ∀ i, i < n → p i = false) : runs p n = [] := by
  induction n with
  | zero => rfl
  | succ n ih => rw [runs_no (h n (by omega)), ih (fun i hi => h i (by omega))]
/-- A row that is turned place by place. -/
def mix (k : Nat) (p q : Nat → Bool) (i : Nat) : Bool := if i < k then q i else p i
theorem mix_zero (p q : Nat → Bool) (i : Nat) : mix 0 p q i = p i := rfl
theorem mix_at (k : Nat) (p q : Nat → Bool) : mix k p q k = p k := if_neg (Nat.lt_irrefl k)
theorem mix_all {k i : Nat} {p q : Nat → Bool} (h : i < k) : mix k p q i = q i := if_pos h
theorem mix_step {k : Nat} {p q : Nat → Bool} {v : Bool} (h : v = q k) (i : Nat) : (if i = k then v else mix k p q i) = mix (k + 1) p q i := by
  unfold mix
  by_cases h1 : i = k
  · subst h1; rw [if_pos rfl, if_pos (Nat.lt_succ_self _), h]
  · rw [if_neg h1]
    by_cases h2 : i < k
    · rw [if_pos h2, if_pos (Nat.lt_succ_of_lt h2)]
    · rw [if_neg h2, if_neg (by omega)]
theorem mix_same {k : Nat} {p q : Nat → Bool} (h : p k = q k) (i : Nat) : mix k p q i = mix (k + 1) p q i := by
  rw [← mix_step h i]
  split
  · rename_i h1; rw [h1, mix_at]
  · rfl
/-- The normal form covers what the spans cover, below the bound. -/
theorem cov_norm {p : Nat → Bool} {i : Nat} (h : i < 10000) : cov (runs p 10000) i = p i := by rw [runs_cov, decide_eq_true h, Bool.true_and]

/-- The part of one span below a place. -/
def upto (s : Int × Int) (k : Nat) (i : Nat) : Bool := decide (max s.1 0 ≤ (i : Int)) && decide ((i : Int) < s.2) && decide (i < k)
theorem upto_start (p : Nat → Bool) (s : Int × Int) (i : Nat) : (p i || upto s (max s.1 0).toNat i) = p i := by
  have : upto s (max s.1 0).toNat i = false := by
    unfold upto
    by_cases h : max s.1 0 ≤ (i : Int)
    · rw [decide_eq_false (show ¬ i < (max s.1 0).toNat by omega), Bool.and_false]
    · rw [decide_eq_false h]; simp
  rw [this, Bool.or_false]
theorem upto_step (p : Nat → Bool) (s : Int × Int) (k i : Nat) (h1 : max s.1 0 ≤ (k : Int)) (h2 : (k : Int) < s.2) : (if i = k then true else (p i || upto s k i)) = (p i || upto s (k + 1) i) := by
  by_cases h : i = k
  · subst h
    rw [if_pos rfl, upto, decide_eq_true h1, decide_eq_true h2, decide_eq_true (show i < i + 1 by omega)]; simp
  · rw [if_neg h, upto, upto]
    congr 2
    rw [decide_eq_decide]; omega
theorem cov_fill (S : List (Int × Int)) (s : Int × Int) (k i : Nat) (hi : i < 10000) (h : ¬ (k : Int) < min s.2 10000) : (cov S i || upto s k i) = cov (S ++ [s]) i := by
  have : cov (S ++ [s]) i = (cov S i || (decide (s.1 ≤ (i : Int)) && decide ((i : Int) < s.2))) := by simp [cov]
  rw [this]
  congr 1
  unfold upto
  by_cases h1 : (i : Int) < s.2
  · rw [decide_eq_true (show i < k by omega), Bool.and_true]
    congr 1
    rw [decide_eq_decide]; omega
  · rw [decide_eq_false h1]; simp

#print axioms runs_cov
#print axioms cov_psum
end Go.Fl.Sp
