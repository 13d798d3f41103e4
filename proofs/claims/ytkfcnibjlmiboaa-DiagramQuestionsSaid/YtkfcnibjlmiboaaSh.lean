/- The shapes of the elements of this program, and the laws that tie them to it. Conditions: none. -/
import Derived.Test.YtkfcnibjlmiboaaFxView
import Derived.Test.YtkfcnibjlmiboaaProg
import Derived.KernelRfl
import Derived.Conc.MuLone
open Go Go.RowKit Go.Fl Go.Fl.Lk Go.Fx
namespace Go.Dg5

inductive C where | i64 | bool | u8 | node | pair | a3 deriving DecidableEq
abbrev car : C → Type
  | .i64 => Int
  | .bool => Bool
  | .u8 => Int
  | .node => Int × Int × Int
  | .pair => Int × Int
  | .a3 => Int × Int × Int
noncomputable abbrev Sg : Sig := ⟨C, car, inferInstance⟩
noncomputable def shape : (T : C) → car T → List (FV Sg)
  | .i64, x => [.int .i64 x]
  | .bool, x => [.bool x]
  | .u8, x => [.int .u8 x]
  | .node, x => [.int .i64 x.1, .int .i64 x.2.1, .int .i64 x.2.2]
  | .pair, x => [.int .i64 x.1, .int .i64 x.2]
  | .a3, x => [.int .i64 x.1, .int .i64 x.2.1, .int .i64 x.2.2]
noncomputable def bld : (T : C) → List (FV Sg) → Option (car T)
  | .i64, [.int .i64 x] => some x
  | .bool, [.bool x] => some x
  | .u8, [.int .u8 x] => some x
  | .node, [.int .i64 x, .int .i64 y, .int .i64 z] => some (x, y, z)
  | .pair, [.int .i64 x, .int .i64 y] => some (x, y)
  | .a3, [.int .i64 x, .int .i64 y, .int .i64 z] => some (x, y, z)
  | _, _ => none
noncomputable def D : Shp Sg where
  size := fun | .i64 => 1 | .bool => 1 | .u8 => 1 | .node => 3 | .pair => 2 | .a3 => 3
  shape := shape
  bld := bld
  zero := fun | .i64 => (0 : Int) | .bool => false | .u8 => (0 : Int) | .node => ((0 : Int), (0 : Int), (0 : Int)) | .pair => ((0 : Int), (0 : Int)) | .a3 => ((0 : Int), (0 : Int), (0 : Int))
  code := fun t => match t with | 3 => some .i64 | 4 => some .bool | 5 => some .u8 | 47 => some .node | 42 => some .pair | _ => none
  acode := fun _ => none
  mcode := fun t => match t with | 52 => some (.node, .i64) | 63 => some (.a3, .i64) | 64 => some (.i64, .bool) | _ => none
  kdec := fun | .i64 => inferInstanceAs (DecidableEq Int) | .bool => inferInstanceAs (DecidableEq Bool) | .u8 => inferInstanceAs (DecidableEq Int) | .node => inferInstanceAs (DecidableEq (Int × Int × Int)) | .pair => inferInstanceAs (DecidableEq (Int × Int)) | .a3 => inferInstanceAs (DecidableEq (Int × Int × Int))


theorem D_ok : D.Ok where
  len T x := by cases T <;> rfl
  pos T := by cases T <;> decide
  bld T ss x σ cs h hr := by
    have key : ss = D.shape T x := by
      unfold D bld at h
      simp only at h
      split at h <;> first | (cases h; done) | (cases h; rfl)
    rw [← key]; exact hr
theorem hasT_of {P : Program} {t : TypeId} (h : hasT P t = true) : hasT P t = true := h
theorem okP : D.OkP Go.Proofs.Try.prog where
  ok := D_ok
  zero t T i z ht hi hz σ := by
    have hi2 : (Go.Proofs.Try.prog.info? t).bind (·.zero) = some z := by rw [hi]; exact hz
    simp only [D] at ht
    split at ht <;> cases ht
    · have e : (Go.Proofs.Try.prog.info? 3).bind (·.zero) = some (.int .i64 0) := by kernel_rfl
      rw [e] at hi2; cases hi2
      refine ⟨rfl, fun j v s hj hs => ?_⟩
      match j with
      | 0 => cases hj; cases hs; exact .int _ _
      | j + 1 => cases hj
    · have e : (Go.Proofs.Try.prog.info? 4).bind (·.zero) = some (.bool false) := by kernel_rfl
      rw [e] at hi2; cases hi2
      refine ⟨rfl, fun j v s hj hs => ?_⟩
      match j with
      | 0 => cases hj; cases hs; exact .bool _
      | j + 1 => cases hj
    · have e : (Go.Proofs.Try.prog.info? 5).bind (·.zero) = some (.int .u8 0) := by kernel_rfl
      rw [e] at hi2; cases hi2
      refine ⟨rfl, fun j v s hj hs => ?_⟩
      match j with
      | 0 => cases hj; cases hs; exact .int _ _
      | j + 1 => cases hj
    · have e : (Go.Proofs.Try.prog.info? 47).bind (·.zero) = some (.agg #[.int .i64 0, .int .i64 0, .int .i64 0]) := by kernel_rfl
      rw [e] at hi2; cases hi2
      refine ⟨rfl, fun j v s hj hs => ?_⟩
      match j with
      | 0 => cases hj; cases hs; exact .int _ _
      | 1 => cases hj; cases hs; exact .int _ _
      | 2 => cases hj; cases hs; exact .int _ _
      | j + 3 => cases hj
    · have e : (Go.Proofs.Try.prog.info? 42).bind (·.zero) = some (.agg #[.int .i64 0, .int .i64 0]) := by kernel_rfl
      rw [e] at hi2; cases hi2
      refine ⟨rfl, fun j v s hj hs => ?_⟩
      match j with
      | 0 => cases hj; cases hs; exact .int _ _
      | 1 => cases hj; cases hs; exact .int _ _
      | j + 2 => cases hj
  arr t T N h := by cases h
  map t K V h := by
    have z64 : ∀ w, (zeroValue 3).run Go.Proofs.Try.prog w = .ok (.int .i64 0) w := fun w => by
      have e : (Go.Proofs.Try.prog.info? 3).bind (·.zero) = some (.int .i64 0) := by kernel_rfl
      obtain ⟨i, hi, hz⟩ := Option.bind_eq_some_iff.1 e
      simp [zeroValue, typeInfo, hi, hz]
    have zb : ∀ w, (zeroValue 4).run Go.Proofs.Try.prog w = .ok (.bool false) w := fun w => by
      have e : (Go.Proofs.Try.prog.info? 4).bind (·.zero) = some (.bool false) := by kernel_rfl
      obtain ⟨i, hi, hz⟩ := Option.bind_eq_some_iff.1 e
      simp [zeroValue, typeInfo, hi, hz]
    have ei : ∀ σ, ElV D σ .i64 (.int .i64 0) (D.zero .i64) := fun σ => ⟨[.int .i64 0], ⟨rfl, fun j v s hj hs => by
      match j with
      | 0 => cases hj; cases hs; exact .int _ _
      | j + 1 => cases hj⟩, rfl⟩
    have eb : ∀ σ, ElV D σ .bool (.bool false) (D.zero .bool) := fun σ => ⟨[.bool false], ⟨rfl, fun j v s hj hs => by
      match j with
      | 0 => cases hj; cases hs; exact .bool _
      | j + 1 => cases hj⟩, rfl⟩
    simp only [D] at h
    split at h <;> cases h
    · exact ⟨47, 3, by kernel_rfl, keyOk_flat (ks := [.int .i64, .int .i64, .int .i64]) (by kernel_rfl) (by decide) (fun x => rfl) (fun a b h => by
        simp only [D, shape, List.cons.injEq, FV.int.injEq, true_and, and_true] at h
        exact Prod.ext h.1 (Prod.ext h.2.1 h.2.2)), fun x => rfl, by kernel_rfl, by kernel_rfl, by kernel_rfl, _, z64, ei⟩
    · exact ⟨75, 3, by kernel_rfl, keyOk_flat (ks := [.int .i64, .int .i64, .int .i64]) (by kernel_rfl) (by decide) (fun x => rfl) (fun a b h => by
        simp only [D, shape, List.cons.injEq, FV.int.injEq, true_and, and_true] at h
        exact Prod.ext h.1 (Prod.ext h.2.1 h.2.2)), fun x => rfl, by kernel_rfl, by kernel_rfl, by kernel_rfl, _, z64, ei⟩
    · exact ⟨3, 4, by kernel_rfl, keyOk_int (q := .i64) (by kernel_rfl), fun x => rfl, by kernel_rfl, by kernel_rfl, by kernel_rfl, _, zb, eb⟩
noncomputable def E0 : Ev Sg := ⟨Go.Proofs.Try.prog, D, fun _ => none, fun g => g == 59 || g == 53 || g == 62 || g == 54, fun _ => none, 0⟩
theorem ok_E0 : EvOk E0 := ⟨okP, by kernel_rfl, fun g c h => (by cases h), fun g h => (by
  have hg : g = 59 ∨ g = 53 ∨ g = 62 ∨ g = 54 := by simpa [E0, or_assoc] using h
  rcases hg with rfl | rfl | rfl | rfl
  · exact ent_of (fn := (Go.Proofs.Try.prog.funcs[59]?).getD default) (c := ((Go.Proofs.Try.prog.funcs[59]?).getD default).body.getD .skip) (by kernel_rfl) (by kernel_rfl) (by kernel_rfl)
  · exact ent_of (fn := (Go.Proofs.Try.prog.funcs[53]?).getD default) (c := ((Go.Proofs.Try.prog.funcs[53]?).getD default).body.getD .skip) (by kernel_rfl) (by kernel_rfl) (by kernel_rfl)
  · exact ent_of (fn := (Go.Proofs.Try.prog.funcs[62]?).getD default) (c := ((Go.Proofs.Try.prog.funcs[62]?).getD default).body.getD .skip) (by kernel_rfl) (by kernel_rfl) (by kernel_rfl)
  · exact ent_of (fn := (Go.Proofs.Try.prog.funcs[54]?).getD default) (c := ((Go.Proofs.Try.prog.funcs[54]?).getD default).body.getD .skip) (by kernel_rfl) (by kernel_rfl) (by kernel_rfl))⟩
end Go.Dg5
