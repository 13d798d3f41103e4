/- A range over slices.Values of a list of texts, inside slices.AppendSeq: what has come, in its order. Conditions: those in the statements; every rule speaks of any program. -/
import Derived.Shelf.SlIter.Collect
import Derived.WalkKit
import Derived.OwnWalkIn
import Derived.TacticsInMore
import Derived.LoopNIn
import Derived.LoopIn
import Derived.RangeFuncLeaves
namespace Go.Fl
open Go Go.Proofs Go.RowKit Go.Maps Go.Sort Go.Shelf
variable {P : Program} {ρ : Ren}

/-- An iterator value that gives ss to each loop whose rounds leave alone what lay before w. -/
def GivesTo (F : Fence) (n : Nat) (P : Program) (g : Nat) (lb : Array Value) (ss : List (List UInt8)) (w : World) : Prop :=
  ∀ (l : Nat) (J : List (List UInt8) → World → Prop) (W : World), Below w.heap.size w W → AbidesFrom W.heap.size J → (∀ pre W1, J pre W1 → Below w.heap.size w W1) →
    (∀ pre x W1, J pre W1 → pre.length < ss.length → YieldAt F (n - 1) P l #[encStr x] W1 fun e W' => e = .returned (.bool true) ∧ J (pre ++ [x]) W' ∧ KeepsWalks W1 W') →
    J [] W → CallsIn F n P g (#[.func (.yield l) #[] #[]] ++ lb) W fun e W' => (∃ v, e = .returned v) ∧ J ss W'

/-- An owned row and another block: an object that is no cells of its elements' type. -/
theorem row_beside {W : World} {base j : Nat} {e : TypeId} {v : Value} {k : Nat} {xs : List Value} {o : Obj} (h : W.ownsRow base e 1 v k xs) (hj : W.heap[j]? = some o) (hno : ∀ cur, o ≠ .cells cur e (0, 0)) (o' : Obj) : (W.putObj j o').ownsRow base e 1 v k xs :=
  h.kept (grownBy_putObj_a W j o') (ownsRow_ne_a h hj hno)

set_option maxRecDepth 100000 in
set_option maxHeartbeats 2000000 in
theorem appendSeq_gives (L : SlLaysZ.n11 P ρ) (F : Fence) (n : Nat) (hf : F.fn (ρ.f 11)) (hro : F.round = none) (hn : 2 ≤ n) (g : Nat) (lb : Array Value) (hg : F.fn g) (eg : ∀ args w, (callFunc g args).run P w = .ok (.enter g args) w)
    (ss : List (List UInt8)) (hN : ss.length ≤ maxLen) (hNb : ss.length * 16 ≤ 140737488355328) (w : World) (hseq : GivesTo F (n - 1) P g lb ss w) :
    CallsIn F n P (ρ.f 11) #[.slice none 0 0, .func (.func g) #[] lb] w fun e w' => ∃ v, e = .returned v ∧ w'.ownsRow w.heap.size (ρ.t 26) 1 v ss.length (ss.map encStr) ∧ Below w.heap.size w w' := by
  have mixed := L.mixed; have t0 := L.t0; have a0 := L.a0; have z0 := L.z0; have v0 := L.v0; have t24 := L.t24; have a24 := L.a24; have z24 := L.z24; have v24 := L.v24; have t26 := L.t26; have a26 := L.a26; have z26 := L.z26; have v26 := L.v26
  have u0 := run_underlying L.t0; have u24 := run_underlying L.t24; have u26 := run_underlying L.t26
  have apart : ρ.t 24 ≠ ρ.t 26 := fun e => by have h := L.t24; rw [e, L.t26] at h; cases h
  obtain ⟨_, _, body⟩ := L.f11
  refine callsIn_of_wp_marks body rfl hf ?_ hro
  simp only [SlBodyZ.n11_ntmps ρ, List.size_toArray, List.length_cons, List.length_nil, Nat.reduceAdd, Nat.reduceSub, Array.replicate_succ, Array.replicate_zero, List.push_toArray, List.append_toArray, List.nil_append, List.cons_append]
  gi_wp2
  refine wpIn_rangeFunc fun fn hfn => ?_
  rw [hro]
  -- the box, the block of the rounds' deferred calls, the loop's record
  generalize hA : w.alloc (.cells #[.slice none 0 0] (ρ.t 24)) = A
  have sA : A.heap.size = w.heap.size + 1 := by rw [← hA]; simp
  have bA : Below w.heap.size w A := by rw [← hA]; exact (Below.refl _ w).alloc (Nat.le_refl _) _
  have xA : A.heap[w.heap.size]? = some (.cells #[.slice none 0 0] (ρ.t 24) (0, 0)) := by rw [← hA]; exact World.alloc_heap_new w _
  generalize hrec : AnyZ.apRec ρ fn (.func (.func g) #[] lb) w.heap.size A.heap.size .ready none = rec
  generalize hB : (A.alloc (.deferred (some []))).alloc (.loop rec) = B
  have oldB : ∀ k, k < A.heap.size → B.heap[k]? = A.heap[k]? := fun k hk => by rw [← hB]; exact (Below.heap_alloc _ _ k (by simp; omega)).trans (Below.heap_alloc _ _ k hk)
  have bB : Below w.heap.size w B := by rw [← hB]; exact (bA.alloc bA.size _).alloc (by have := bA.size; simp; omega) _
  have dB : B.heap[A.heap.size]? = some (.deferred (some [])) := by rw [← hB]; exact (Below.heap_alloc _ _ _ (by simp)).trans (World.alloc_heap_new A _)
  have lB : B.heap[A.heap.size + 1]? = some (.loop rec) := by rw [← hB]; have := World.alloc_heap_new (A.alloc (.deferred (some []))) (.loop rec); rwa [World.size_alloc] at this
  have start : AnyZ.ApAt ρ w fn (.func (.func g) #[] lb) w.heap.size (A.heap.size + 1) A.heap.size [] B :=
    ⟨⟨_, (oldB _ (by omega)).trans xA, ⟨rfl, .inl ⟨rfl, rfl⟩⟩, by simp⟩, by rw [hrec]; exact lB, dB, bB⟩
  refine ⟨A.heap.size + 1, [{ target := .collected A.heap.size, args := #[] }], B, { target := .fn (.func g) lb, args := #[.func (.yield (A.heap.size + 1)) #[] #[]] }, B, g, #[.func (.yield (A.heap.size + 1)) #[] #[]] ++ lb, B, ?_, ?_, ?_, ?_, fun _ => (by omega), ?_⟩
  · rw [← hB, ← hrec]; exact run_enterLoop_outer _ _ _ _ _
  · simp [resolve, go_sem]
  · intro f' h'; simp [Target.leads] at h'; exact h' ▸ hg
  · simp [invoke, go_sem, eg]
  refine (hseq _ (AnyZ.ApAt ρ w fn (.func (.func g) #[] lb) w.heap.size (A.heap.size + 1) A.heap.size) B bB (AnyZ.ap_abides ρ _ _ _ _ _ _ _ bB.size) (fun _ _ h => h.below)
    (fun pre x W h hl => AnyZ.apYield { L with } F _ w fn hfn _ _ _ _ (by omega) (by omega) (by omega) (Nat.le_refl _) (by omega) ss.length hN hNb pre x W h hl) start).mono ?_
  rintro e C ⟨⟨_, rfl⟩, hC⟩
  obtain ⟨v, hv, hrow, _⟩ := hC.box
  have hend := run_endLoop (P := P) hC.L (by simp [AnyZ.apRec])
  generalize hD : C.putObj (A.heap.size + 1) (.loop { AnyZ.apRec ρ fn (.func (.func g) #[] lb) w.heap.size A.heap.size .ready none with state := .exhausted }) = D at hend
  have rowD : D.ownsRow w.heap.size (ρ.t 26) 1 v ss.length (ss.map encStr) := by rw [← hD]; exact row_beside hrow hC.L (fun _ h => by cases h) _
  have boxD : D.heap[w.heap.size]? = some (.cells #[v] (ρ.t 24) (0, 0)) := by rw [← hD]; exact (World.putObj_heap_other (by omega)).trans hv
  have defD : D.heap[A.heap.size]? = some (.deferred (some [])) := by rw [← hD]; exact (World.putObj_heap_other (by omega)).trans hC.K
  have belD : Below w.heap.size w D := by rw [← hD]; exact hC.below.grown (grownBy_putObj_a _ _ _) hC.below.size (fun k h => by cases h; omega)
  obtain ⟨cellD, markD⟩ := cell_of_box_a boxD
  clear hD
  refine ⟨none, D, hend, ?_⟩
  gi_wp2
  rw [← sA]
  refine ⟨by simp, .inl ⟨_, _, rfl, run_takeDeferred defD, ?_⟩⟩
  exact ⟨_, results_tmp rfl _ _ _, v, rfl, row_beside rowD defD (fun _ h => by cases h) _, belD.grown (grownBy_putObj_a _ _ _) belD.size (fun k h => by cases h; omega)⟩

/-- What has come when k rounds are over. -/
theorem take_snocD {α : Type} (zs : List α) (d : α) {k : Nat} (h : k < zs.length) : zs.take k ++ [zs[k]?.getD d] = zs.take (k + 1) := by
  rw [List.take_add_one, List.getElem?_eq_getElem h]; rfl
#print axioms appendSeq_gives
end Go.Fl
