/- The rules that tie plain meanings to code. Conditions: none; every rule speaks of any program. -/
import Derived.Test.YtkfcnibjlmiboaaFlSeq
import Derived.Test.YtkfcnibjlmiboaaFlSort
import Derived.Test.YtkfcnibjlmiboaaFlPure
import Derived.Scope
import Derived.WalkSpells
namespace Go.Fl
open Go Go.RowKit
variable {P : Program} {Q : Exit → Act → World → Prop} {n : Nat} {f : Fr} {w : World}
theorem nwi {a r : Int} (h : a = r) (hi : InI r) : IntKind.i64.wrap a = r := nw h (by rw [h]; exact hi.1) (by rw [h]; exact hi.2)
theorem lp_loop1 {T0 : Type} {c : Code} (I : T0 → Fr → World → Prop) {body : T0 → (T0 → Prop) → Prop} {s0_0} (hL : Lp1 body s0_0) (h0 : I s0_0 f w)
    (round : ∀ s0_1 Y, body s0_1 Y → ∀ f w, I s0_1 f w → c.wp P (Exit.then (fun a' w' => ∃ s0_2 f', a' = mk n f' ∧ Y s0_2 ∧ I s0_2 f' w') Q) (mk n f) w) : (Code.loop c).wp P Q (mk n f) w := by
  intro b k cs
  have key := hL (fun s0_1 => ∀ f w, I s0_1 f w → ∃ e a' w', Q e a' w' ∧ Arrives P (lone (b.at (mk n f) (.code c :: .inLoop c :: k)) cs w) b k cs e a' w') (by
    intro s0_1 Y hY hb f w hI
    obtain ⟨e, a₁, w₁, hq, harr⟩ := round s0_1 Y hb f w hI b (.inLoop c :: k) cs
    cases e with
    | normal =>
      obtain ⟨s0_2, f', rfl, hy, hI₁⟩ := hq
      obtain ⟨e₂, a₂, w₂, hq₂, harr₂⟩ := hY s0_2 hy f' w₁ hI₁
      exact ⟨e₂, a₂, w₂, hq₂, .of_steps (Steps.trans harr (.one step_inLoop)) harr₂⟩
    | exit id => exact ⟨_, a₁, w₁, hq, .pass (x := .inLoop c) rfl (fun _ _ => .inl (by simp)) harr⟩
    | goto l => exact ⟨_, a₁, w₁, hq, .pass (x := .inLoop c) rfl (fun _ _ => .inl (by simp)) harr⟩
    | ret => exact ⟨_, a₁, w₁, hq, .pass (x := .inLoop c) rfl (fun _ _ => .inl (by simp)) harr⟩
    | panic ch => exact ⟨_, a₁, w₁, hq, .pass (x := .inLoop c) rfl (fun _ _ => .inl (by simp)) harr⟩
    | outgrown => exact ⟨_, a₁, w₁, hq, .pass (x := .inLoop c) rfl (fun _ _ => .inl (by simp)) harr⟩)
  obtain ⟨e, a', w', hq, harr⟩ := key f w h0
  exact ⟨e, a', w', hq, .of_steps (.one step_loop) harr⟩
theorem lp_loop2 {T0 T1 : Type} {c : Code} (I : T0 → T1 → Fr → World → Prop) {body : T0 → T1 → (T0 → T1 → Prop) → Prop} {s0_0 s1_0} (hL : Lp2 body s0_0 s1_0) (h0 : I s0_0 s1_0 f w)
    (round : ∀ s0_1 s1_1 Y, body s0_1 s1_1 Y → ∀ f w, I s0_1 s1_1 f w → c.wp P (Exit.then (fun a' w' => ∃ s0_2 s1_2 f', a' = mk n f' ∧ Y s0_2 s1_2 ∧ I s0_2 s1_2 f' w') Q) (mk n f) w) : (Code.loop c).wp P Q (mk n f) w := by
  intro b k cs
  have key := hL (fun s0_1 s1_1 => ∀ f w, I s0_1 s1_1 f w → ∃ e a' w', Q e a' w' ∧ Arrives P (lone (b.at (mk n f) (.code c :: .inLoop c :: k)) cs w) b k cs e a' w') (by
    intro s0_1 s1_1 Y hY hb f w hI
    obtain ⟨e, a₁, w₁, hq, harr⟩ := round s0_1 s1_1 Y hb f w hI b (.inLoop c :: k) cs
    cases e with
    | normal =>
      obtain ⟨s0_2, s1_2, f', rfl, hy, hI₁⟩ := hq
      obtain ⟨e₂, a₂, w₂, hq₂, harr₂⟩ := hY s0_2 s1_2 hy f' w₁ hI₁
      exact ⟨e₂, a₂, w₂, hq₂, .of_steps (Steps.trans harr (.one step_inLoop)) harr₂⟩
    | exit id => exact ⟨_, a₁, w₁, hq, .pass (x := .inLoop c) rfl (fun _ _ => .inl (by simp)) harr⟩
    | goto l => exact ⟨_, a₁, w₁, hq, .pass (x := .inLoop c) rfl (fun _ _ => .inl (by simp)) harr⟩
    | ret => exact ⟨_, a₁, w₁, hq, .pass (x := .inLoop c) rfl (fun _ _ => .inl (by simp)) harr⟩
    | panic ch => exact ⟨_, a₁, w₁, hq, .pass (x := .inLoop c) rfl (fun _ _ => .inl (by simp)) harr⟩
    | outgrown => exact ⟨_, a₁, w₁, hq, .pass (x := .inLoop c) rfl (fun _ _ => .inl (by simp)) harr⟩)
  obtain ⟨e, a', w', hq, harr⟩ := key f w h0
  exact ⟨e, a', w', hq, .of_steps (.one step_loop) harr⟩
theorem lp_loop3 {T0 T1 T2 : Type} {c : Code} (I : T0 → T1 → T2 → Fr → World → Prop) {body : T0 → T1 → T2 → (T0 → T1 → T2 → Prop) → Prop} {s0_0 s1_0 s2_0} (hL : Lp3 body s0_0 s1_0 s2_0) (h0 : I s0_0 s1_0 s2_0 f w)
    (round : ∀ s0_1 s1_1 s2_1 Y, body s0_1 s1_1 s2_1 Y → ∀ f w, I s0_1 s1_1 s2_1 f w → c.wp P (Exit.then (fun a' w' => ∃ s0_2 s1_2 s2_2 f', a' = mk n f' ∧ Y s0_2 s1_2 s2_2 ∧ I s0_2 s1_2 s2_2 f' w') Q) (mk n f) w) : (Code.loop c).wp P Q (mk n f) w := by
  intro b k cs
  have key := hL (fun s0_1 s1_1 s2_1 => ∀ f w, I s0_1 s1_1 s2_1 f w → ∃ e a' w', Q e a' w' ∧ Arrives P (lone (b.at (mk n f) (.code c :: .inLoop c :: k)) cs w) b k cs e a' w') (by
    intro s0_1 s1_1 s2_1 Y hY hb f w hI
    obtain ⟨e, a₁, w₁, hq, harr⟩ := round s0_1 s1_1 s2_1 Y hb f w hI b (.inLoop c :: k) cs
    cases e with
    | normal =>
      obtain ⟨s0_2, s1_2, s2_2, f', rfl, hy, hI₁⟩ := hq
      obtain ⟨e₂, a₂, w₂, hq₂, harr₂⟩ := hY s0_2 s1_2 s2_2 hy f' w₁ hI₁
      exact ⟨e₂, a₂, w₂, hq₂, .of_steps (Steps.trans harr (.one step_inLoop)) harr₂⟩
    | exit id => exact ⟨_, a₁, w₁, hq, .pass (x := .inLoop c) rfl (fun _ _ => .inl (by simp)) harr⟩
    | goto l => exact ⟨_, a₁, w₁, hq, .pass (x := .inLoop c) rfl (fun _ _ => .inl (by simp)) harr⟩
    | ret => exact ⟨_, a₁, w₁, hq, .pass (x := .inLoop c) rfl (fun _ _ => .inl (by simp)) harr⟩
    | panic ch => exact ⟨_, a₁, w₁, hq, .pass (x := .inLoop c) rfl (fun _ _ => .inl (by simp)) harr⟩
    | outgrown => exact ⟨_, a₁, w₁, hq, .pass (x := .inLoop c) rfl (fun _ _ => .inl (by simp)) harr⟩)
  obtain ⟨e, a', w', hq, harr⟩ := key f w h0
  exact ⟨e, a', w', hq, .of_steps (.one step_loop) harr⟩
theorem lp_loop4 {T0 T1 T2 T3 : Type} {c : Code} (I : T0 → T1 → T2 → T3 → Fr → World → Prop) {body : T0 → T1 → T2 → T3 → (T0 → T1 → T2 → T3 → Prop) → Prop} {s0_0 s1_0 s2_0 s3_0} (hL : Lp4 body s0_0 s1_0 s2_0 s3_0) (h0 : I s0_0 s1_0 s2_0 s3_0 f w)
    (round : ∀ s0_1 s1_1 s2_1 s3_1 Y, body s0_1 s1_1 s2_1 s3_1 Y → ∀ f w, I s0_1 s1_1 s2_1 s3_1 f w → c.wp P (Exit.then (fun a' w' => ∃ s0_2 s1_2 s2_2 s3_2 f', a' = mk n f' ∧ Y s0_2 s1_2 s2_2 s3_2 ∧ I s0_2 s1_2 s2_2 s3_2 f' w') Q) (mk n f) w) : (Code.loop c).wp P Q (mk n f) w := by
  intro b k cs
  have key := hL (fun s0_1 s1_1 s2_1 s3_1 => ∀ f w, I s0_1 s1_1 s2_1 s3_1 f w → ∃ e a' w', Q e a' w' ∧ Arrives P (lone (b.at (mk n f) (.code c :: .inLoop c :: k)) cs w) b k cs e a' w') (by
    intro s0_1 s1_1 s2_1 s3_1 Y hY hb f w hI
    obtain ⟨e, a₁, w₁, hq, harr⟩ := round s0_1 s1_1 s2_1 s3_1 Y hb f w hI b (.inLoop c :: k) cs
    cases e with
    | normal =>
      obtain ⟨s0_2, s1_2, s2_2, s3_2, f', rfl, hy, hI₁⟩ := hq
      obtain ⟨e₂, a₂, w₂, hq₂, harr₂⟩ := hY s0_2 s1_2 s2_2 s3_2 hy f' w₁ hI₁
      exact ⟨e₂, a₂, w₂, hq₂, .of_steps (Steps.trans harr (.one step_inLoop)) harr₂⟩
    | exit id => exact ⟨_, a₁, w₁, hq, .pass (x := .inLoop c) rfl (fun _ _ => .inl (by simp)) harr⟩
    | goto l => exact ⟨_, a₁, w₁, hq, .pass (x := .inLoop c) rfl (fun _ _ => .inl (by simp)) harr⟩
    | ret => exact ⟨_, a₁, w₁, hq, .pass (x := .inLoop c) rfl (fun _ _ => .inl (by simp)) harr⟩
    | panic ch => exact ⟨_, a₁, w₁, hq, .pass (x := .inLoop c) rfl (fun _ _ => .inl (by simp)) harr⟩
    | outgrown => exact ⟨_, a₁, w₁, hq, .pass (x := .inLoop c) rfl (fun _ _ => .inl (by simp)) harr⟩)
  obtain ⟨e, a', w', hq, harr⟩ := key f w h0
  exact ⟨e, a', w', hq, .of_steps (.one step_loop) harr⟩
theorem lp_loop5 {T0 T1 T2 T3 T4 : Type} {c : Code} (I : T0 → T1 → T2 → T3 → T4 → Fr → World → Prop) {body : T0 → T1 → T2 → T3 → T4 → (T0 → T1 → T2 → T3 → T4 → Prop) → Prop} {s0_0 s1_0 s2_0 s3_0 s4_0} (hL : Lp5 body s0_0 s1_0 s2_0 s3_0 s4_0) (h0 : I s0_0 s1_0 s2_0 s3_0 s4_0 f w)
    (round : ∀ s0_1 s1_1 s2_1 s3_1 s4_1 Y, body s0_1 s1_1 s2_1 s3_1 s4_1 Y → ∀ f w, I s0_1 s1_1 s2_1 s3_1 s4_1 f w → c.wp P (Exit.then (fun a' w' => ∃ s0_2 s1_2 s2_2 s3_2 s4_2 f', a' = mk n f' ∧ Y s0_2 s1_2 s2_2 s3_2 s4_2 ∧ I s0_2 s1_2 s2_2 s3_2 s4_2 f' w') Q) (mk n f) w) : (Code.loop c).wp P Q (mk n f) w := by
  intro b k cs
  have key := hL (fun s0_1 s1_1 s2_1 s3_1 s4_1 => ∀ f w, I s0_1 s1_1 s2_1 s3_1 s4_1 f w → ∃ e a' w', Q e a' w' ∧ Arrives P (lone (b.at (mk n f) (.code c :: .inLoop c :: k)) cs w) b k cs e a' w') (by
    intro s0_1 s1_1 s2_1 s3_1 s4_1 Y hY hb f w hI
    obtain ⟨e, a₁, w₁, hq, harr⟩ := round s0_1 s1_1 s2_1 s3_1 s4_1 Y hb f w hI b (.inLoop c :: k) cs
    cases e with
    | normal =>
      obtain ⟨s0_2, s1_2, s2_2, s3_2, s4_2, f', rfl, hy, hI₁⟩ := hq
      obtain ⟨e₂, a₂, w₂, hq₂, harr₂⟩ := hY s0_2 s1_2 s2_2 s3_2 s4_2 hy f' w₁ hI₁
      exact ⟨e₂, a₂, w₂, hq₂, .of_steps (Steps.trans harr (.one step_inLoop)) harr₂⟩
    | exit id => exact ⟨_, a₁, w₁, hq, .pass (x := .inLoop c) rfl (fun _ _ => .inl (by simp)) harr⟩
    | goto l => exact ⟨_, a₁, w₁, hq, .pass (x := .inLoop c) rfl (fun _ _ => .inl (by simp)) harr⟩
    | ret => exact ⟨_, a₁, w₁, hq, .pass (x := .inLoop c) rfl (fun _ _ => .inl (by simp)) harr⟩
    | panic ch => exact ⟨_, a₁, w₁, hq, .pass (x := .inLoop c) rfl (fun _ _ => .inl (by simp)) harr⟩
    | outgrown => exact ⟨_, a₁, w₁, hq, .pass (x := .inLoop c) rfl (fun _ _ => .inl (by simp)) harr⟩)
  obtain ⟨e, a', w', hq, harr⟩ := key f w h0
  exact ⟨e, a', w', hq, .of_steps (.one step_loop) harr⟩
theorem lp_loop6 {T0 T1 T2 T3 T4 T5 : Type} {c : Code} (I : T0 → T1 → T2 → T3 → T4 → T5 → Fr → World → Prop) {body : T0 → T1 → T2 → T3 → T4 → T5 → (T0 → T1 → T2 → T3 → T4 → T5 → Prop) → Prop} {s0_0 s1_0 s2_0 s3_0 s4_0 s5_0} (hL : Lp6 body s0_0 s1_0 s2_0 s3_0 s4_0 s5_0) (h0 : I s0_0 s1_0 s2_0 s3_0 s4_0 s5_0 f w)
    (round : ∀ s0_1 s1_1 s2_1 s3_1 s4_1 s5_1 Y, body s0_1 s1_1 s2_1 s3_1 s4_1 s5_1 Y → ∀ f w, I s0_1 s1_1 s2_1 s3_1 s4_1 s5_1 f w → c.wp P (Exit.then (fun a' w' => ∃ s0_2 s1_2 s2_2 s3_2 s4_2 s5_2 f', a' = mk n f' ∧ Y s0_2 s1_2 s2_2 s3_2 s4_2 s5_2 ∧ I s0_2 s1_2 s2_2 s3_2 s4_2 s5_2 f' w') Q) (mk n f) w) : (Code.loop c).wp P Q (mk n f) w := by
  intro b k cs
  have key := hL (fun s0_1 s1_1 s2_1 s3_1 s4_1 s5_1 => ∀ f w, I s0_1 s1_1 s2_1 s3_1 s4_1 s5_1 f w → ∃ e a' w', Q e a' w' ∧ Arrives P (lone (b.at (mk n f) (.code c :: .inLoop c :: k)) cs w) b k cs e a' w') (by
    intro s0_1 s1_1 s2_1 s3_1 s4_1 s5_1 Y hY hb f w hI
    obtain ⟨e, a₁, w₁, hq, harr⟩ := round s0_1 s1_1 s2_1 s3_1 s4_1 s5_1 Y hb f w hI b (.inLoop c :: k) cs
    cases e with
    | normal =>
      obtain ⟨s0_2, s1_2, s2_2, s3_2, s4_2, s5_2, f', rfl, hy, hI₁⟩ := hq
      obtain ⟨e₂, a₂, w₂, hq₂, harr₂⟩ := hY s0_2 s1_2 s2_2 s3_2 s4_2 s5_2 hy f' w₁ hI₁
      exact ⟨e₂, a₂, w₂, hq₂, .of_steps (Steps.trans harr (.one step_inLoop)) harr₂⟩
    | exit id => exact ⟨_, a₁, w₁, hq, .pass (x := .inLoop c) rfl (fun _ _ => .inl (by simp)) harr⟩
    | goto l => exact ⟨_, a₁, w₁, hq, .pass (x := .inLoop c) rfl (fun _ _ => .inl (by simp)) harr⟩
    | ret => exact ⟨_, a₁, w₁, hq, .pass (x := .inLoop c) rfl (fun _ _ => .inl (by simp)) harr⟩
    | panic ch => exact ⟨_, a₁, w₁, hq, .pass (x := .inLoop c) rfl (fun _ _ => .inl (by simp)) harr⟩
    | outgrown => exact ⟨_, a₁, w₁, hq, .pass (x := .inLoop c) rfl (fun _ _ => .inl (by simp)) harr⟩)
  obtain ⟨e, a', w', hq, harr⟩ := key f w h0
  exact ⟨e, a', w', hq, .of_steps (.one step_loop) harr⟩
theorem lp_loop7 {T0 T1 T2 T3 T4 T5 T6 : Type} {c : Code} (I : T0 → T1 → T2 → T3 → T4 → T5 → T6 → Fr → World → Prop) {body : T0 → T1 → T2 → T3 → T4 → T5 → T6 → (T0 → T1 → T2 → T3 → T4 → T5 → T6 → Prop) → Prop} {s0_0 s1_0 s2_0 s3_0 s4_0 s5_0 s6_0} (hL : Lp7 body s0_0 s1_0 s2_0 s3_0 s4_0 s5_0 s6_0) (h0 : I s0_0 s1_0 s2_0 s3_0 s4_0 s5_0 s6_0 f w)
    (round : ∀ s0_1 s1_1 s2_1 s3_1 s4_1 s5_1 s6_1 Y, body s0_1 s1_1 s2_1 s3_1 s4_1 s5_1 s6_1 Y → ∀ f w, I s0_1 s1_1 s2_1 s3_1 s4_1 s5_1 s6_1 f w → c.wp P (Exit.then (fun a' w' => ∃ s0_2 s1_2 s2_2 s3_2 s4_2 s5_2 s6_2 f', a' = mk n f' ∧ Y s0_2 s1_2 s2_2 s3_2 s4_2 s5_2 s6_2 ∧ I s0_2 s1_2 s2_2 s3_2 s4_2 s5_2 s6_2 f' w') Q) (mk n f) w) : (Code.loop c).wp P Q (mk n f) w := by
  intro b k cs
  have key := hL (fun s0_1 s1_1 s2_1 s3_1 s4_1 s5_1 s6_1 => ∀ f w, I s0_1 s1_1 s2_1 s3_1 s4_1 s5_1 s6_1 f w → ∃ e a' w', Q e a' w' ∧ Arrives P (lone (b.at (mk n f) (.code c :: .inLoop c :: k)) cs w) b k cs e a' w') (by
    intro s0_1 s1_1 s2_1 s3_1 s4_1 s5_1 s6_1 Y hY hb f w hI
    obtain ⟨e, a₁, w₁, hq, harr⟩ := round s0_1 s1_1 s2_1 s3_1 s4_1 s5_1 s6_1 Y hb f w hI b (.inLoop c :: k) cs
    cases e with
    | normal =>
      obtain ⟨s0_2, s1_2, s2_2, s3_2, s4_2, s5_2, s6_2, f', rfl, hy, hI₁⟩ := hq
      obtain ⟨e₂, a₂, w₂, hq₂, harr₂⟩ := hY s0_2 s1_2 s2_2 s3_2 s4_2 s5_2 s6_2 hy f' w₁ hI₁
      exact ⟨e₂, a₂, w₂, hq₂, .of_steps (Steps.trans harr (.one step_inLoop)) harr₂⟩
    | exit id => exact ⟨_, a₁, w₁, hq, .pass (x := .inLoop c) rfl (fun _ _ => .inl (by simp)) harr⟩
    | goto l => exact ⟨_, a₁, w₁, hq, .pass (x := .inLoop c) rfl (fun _ _ => .inl (by simp)) harr⟩
    | ret => exact ⟨_, a₁, w₁, hq, .pass (x := .inLoop c) rfl (fun _ _ => .inl (by simp)) harr⟩
    | panic ch => exact ⟨_, a₁, w₁, hq, .pass (x := .inLoop c) rfl (fun _ _ => .inl (by simp)) harr⟩
    | outgrown => exact ⟨_, a₁, w₁, hq, .pass (x := .inLoop c) rfl (fun _ _ => .inl (by simp)) harr⟩)
  obtain ⟨e, a', w', hq, harr⟩ := key f w h0
  exact ⟨e, a', w', hq, .of_steps (.one step_loop) harr⟩
theorem lp_loop8 {T0 T1 T2 T3 T4 T5 T6 T7 : Type} {c : Code} (I : T0 → T1 → T2 → T3 → T4 → T5 → T6 → T7 → Fr → World → Prop) {body : T0 → T1 → T2 → T3 → T4 → T5 → T6 → T7 → (T0 → T1 → T2 → T3 → T4 → T5 → T6 → T7 → Prop) → Prop} {s0_0 s1_0 s2_0 s3_0 s4_0 s5_0 s6_0 s7_0} (hL : Lp8 body s0_0 s1_0 s2_0 s3_0 s4_0 s5_0 s6_0 s7_0) (h0 : I s0_0 s1_0 s2_0 s3_0 s4_0 s5_0 s6_0 s7_0 f w)
    (round : ∀ s0_1 s1_1 s2_1 s3_1 s4_1 s5_1 s6_1 s7_1 Y, body s0_1 s1_1 s2_1 s3_1 s4_1 s5_1 s6_1 s7_1 Y → ∀ f w, I s0_1 s1_1 s2_1 s3_1 s4_1 s5_1 s6_1 s7_1 f w → c.wp P (Exit.then (fun a' w' => ∃ s0_2 s1_2 s2_2 s3_2 s4_2 s5_2 s6_2 s7_2 f', a' = mk n f' ∧ Y s0_2 s1_2 s2_2 s3_2 s4_2 s5_2 s6_2 s7_2 ∧ I s0_2 s1_2 s2_2 s3_2 s4_2 s5_2 s6_2 s7_2 f' w') Q) (mk n f) w) : (Code.loop c).wp P Q (mk n f) w := by
  intro b k cs
  have key := hL (fun s0_1 s1_1 s2_1 s3_1 s4_1 s5_1 s6_1 s7_1 => ∀ f w, I s0_1 s1_1 s2_1 s3_1 s4_1 s5_1 s6_1 s7_1 f w → ∃ e a' w', Q e a' w' ∧ Arrives P (lone (b.at (mk n f) (.code c :: .inLoop c :: k)) cs w) b k cs e a' w') (by
    intro s0_1 s1_1 s2_1 s3_1 s4_1 s5_1 s6_1 s7_1 Y hY hb f w hI
    obtain ⟨e, a₁, w₁, hq, harr⟩ := round s0_1 s1_1 s2_1 s3_1 s4_1 s5_1 s6_1 s7_1 Y hb f w hI b (.inLoop c :: k) cs
    cases e with
    | normal =>
      obtain ⟨s0_2, s1_2, s2_2, s3_2, s4_2, s5_2, s6_2, s7_2, f', rfl, hy, hI₁⟩ := hq
      obtain ⟨e₂, a₂, w₂, hq₂, harr₂⟩ := hY s0_2 s1_2 s2_2 s3_2 s4_2 s5_2 s6_2 s7_2 hy f' w₁ hI₁
      exact ⟨e₂, a₂, w₂, hq₂, .of_steps (Steps.trans harr (.one step_inLoop)) harr₂⟩
    | exit id => exact ⟨_, a₁, w₁, hq, .pass (x := .inLoop c) rfl (fun _ _ => .inl (by simp)) harr⟩
    | goto l => exact ⟨_, a₁, w₁, hq, .pass (x := .inLoop c) rfl (fun _ _ => .inl (by simp)) harr⟩
    | ret => exact ⟨_, a₁, w₁, hq, .pass (x := .inLoop c) rfl (fun _ _ => .inl (by simp)) harr⟩
    | panic ch => exact ⟨_, a₁, w₁, hq, .pass (x := .inLoop c) rfl (fun _ _ => .inl (by simp)) harr⟩
    | outgrown => exact ⟨_, a₁, w₁, hq, .pass (x := .inLoop c) rfl (fun _ _ => .inl (by simp)) harr⟩)
  obtain ⟨e, a', w', hq, harr⟩ := key f w h0
  exact ⟨e, a', w', hq, .of_steps (.one step_loop) harr⟩
theorem lp_loop9 {T0 T1 T2 T3 T4 T5 T6 T7 T8 : Type} {c : Code} (I : T0 → T1 → T2 → T3 → T4 → T5 → T6 → T7 → T8 → Fr → World → Prop) {body : T0 → T1 → T2 → T3 → T4 → T5 → T6 → T7 → T8 → (T0 → T1 → T2 → T3 → T4 → T5 → T6 → T7 → T8 → Prop) → Prop} {s0_0 s1_0 s2_0 s3_0 s4_0 s5_0 s6_0 s7_0 s8_0} (hL : Lp9 body s0_0 s1_0 s2_0 s3_0 s4_0 s5_0 s6_0 s7_0 s8_0) (h0 : I s0_0 s1_0 s2_0 s3_0 s4_0 s5_0 s6_0 s7_0 s8_0 f w)
    (round : ∀ s0_1 s1_1 s2_1 s3_1 s4_1 s5_1 s6_1 s7_1 s8_1 Y, body s0_1 s1_1 s2_1 s3_1 s4_1 s5_1 s6_1 s7_1 s8_1 Y → ∀ f w, I s0_1 s1_1 s2_1 s3_1 s4_1 s5_1 s6_1 s7_1 s8_1 f w → c.wp P (Exit.then (fun a' w' => ∃ s0_2 s1_2 s2_2 s3_2 s4_2 s5_2 s6_2 s7_2 s8_2 f', a' = mk n f' ∧ Y s0_2 s1_2 s2_2 s3_2 s4_2 s5_2 s6_2 s7_2 s8_2 ∧ I s0_2 s1_2 s2_2 s3_2 s4_2 s5_2 s6_2 s7_2 s8_2 f' w') Q) (mk n f) w) : (Code.loop c).wp P Q (mk n f) w := by
  intro b k cs
  have key := hL (fun s0_1 s1_1 s2_1 s3_1 s4_1 s5_1 s6_1 s7_1 s8_1 => ∀ f w, I s0_1 s1_1 s2_1 s3_1 s4_1 s5_1 s6_1 s7_1 s8_1 f w → ∃ e a' w', Q e a' w' ∧ Arrives P (lone (b.at (mk n f) (.code c :: .inLoop c :: k)) cs w) b k cs e a' w') (by
    intro s0_1 s1_1 s2_1 s3_1 s4_1 s5_1 s6_1 s7_1 s8_1 Y hY hb f w hI
    obtain ⟨e, a₁, w₁, hq, harr⟩ := round s0_1 s1_1 s2_1 s3_1 s4_1 s5_1 s6_1 s7_1 s8_1 Y hb f w hI b (.inLoop c :: k) cs
    cases e with
    | normal =>
      obtain ⟨s0_2, s1_2, s2_2, s3_2, s4_2, s5_2, s6_2, s7_2, s8_2, f', rfl, hy, hI₁⟩ := hq
      obtain ⟨e₂, a₂, w₂, hq₂, harr₂⟩ := hY s0_2 s1_2 s2_2 s3_2 s4_2 s5_2 s6_2 s7_2 s8_2 hy f' w₁ hI₁
      exact ⟨e₂, a₂, w₂, hq₂, .of_steps (Steps.trans harr (.one step_inLoop)) harr₂⟩
    | exit id => exact ⟨_, a₁, w₁, hq, .pass (x := .inLoop c) rfl (fun _ _ => .inl (by simp)) harr⟩
    | goto l => exact ⟨_, a₁, w₁, hq, .pass (x := .inLoop c) rfl (fun _ _ => .inl (by simp)) harr⟩
    | ret => exact ⟨_, a₁, w₁, hq, .pass (x := .inLoop c) rfl (fun _ _ => .inl (by simp)) harr⟩
    | panic ch => exact ⟨_, a₁, w₁, hq, .pass (x := .inLoop c) rfl (fun _ _ => .inl (by simp)) harr⟩
    | outgrown => exact ⟨_, a₁, w₁, hq, .pass (x := .inLoop c) rfl (fun _ _ => .inl (by simp)) harr⟩)
  obtain ⟨e, a', w', hq, harr⟩ := key f w h0
  exact ⟨e, a', w', hq, .of_steps (.one step_loop) harr⟩
theorem lp_loop10 {T0 T1 T2 T3 T4 T5 T6 T7 T8 T9 : Type} {c : Code} (I : T0 → T1 → T2 → T3 → T4 → T5 → T6 → T7 → T8 → T9 → Fr → World → Prop) {body : T0 → T1 → T2 → T3 → T4 → T5 → T6 → T7 → T8 → T9 → (T0 → T1 → T2 → T3 → T4 → T5 → T6 → T7 → T8 → T9 → Prop) → Prop} {s0_0 s1_0 s2_0 s3_0 s4_0 s5_0 s6_0 s7_0 s8_0 s9_0} (hL : Lp10 body s0_0 s1_0 s2_0 s3_0 s4_0 s5_0 s6_0 s7_0 s8_0 s9_0) (h0 : I s0_0 s1_0 s2_0 s3_0 s4_0 s5_0 s6_0 s7_0 s8_0 s9_0 f w)
    (round : ∀ s0_1 s1_1 s2_1 s3_1 s4_1 s5_1 s6_1 s7_1 s8_1 s9_1 Y, body s0_1 s1_1 s2_1 s3_1 s4_1 s5_1 s6_1 s7_1 s8_1 s9_1 Y → ∀ f w, I s0_1 s1_1 s2_1 s3_1 s4_1 s5_1 s6_1 s7_1 s8_1 s9_1 f w → c.wp P (Exit.then (fun a' w' => ∃ s0_2 s1_2 s2_2 s3_2 s4_2 s5_2 s6_2 s7_2 s8_2 s9_2 f', a' = mk n f' ∧ Y s0_2 s1_2 s2_2 s3_2 s4_2 s5_2 s6_2 s7_2 s8_2 s9_2 ∧ I s0_2 s1_2 s2_2 s3_2 s4_2 s5_2 s6_2 s7_2 s8_2 s9_2 f' w') Q) (mk n f) w) : (Code.loop c).wp P Q (mk n f) w := by
  intro b k cs
  have key := hL (fun s0_1 s1_1 s2_1 s3_1 s4_1 s5_1 s6_1 s7_1 s8_1 s9_1 => ∀ f w, I s0_1 s1_1 s2_1 s3_1 s4_1 s5_1 s6_1 s7_1 s8_1 s9_1 f w → ∃ e a' w', Q e a' w' ∧ Arrives P (lone (b.at (mk n f) (.code c :: .inLoop c :: k)) cs w) b k cs e a' w') (by
    intro s0_1 s1_1 s2_1 s3_1 s4_1 s5_1 s6_1 s7_1 s8_1 s9_1 Y hY hb f w hI
    obtain ⟨e, a₁, w₁, hq, harr⟩ := round s0_1 s1_1 s2_1 s3_1 s4_1 s5_1 s6_1 s7_1 s8_1 s9_1 Y hb f w hI b (.inLoop c :: k) cs
    cases e with
    | normal =>
      obtain ⟨s0_2, s1_2, s2_2, s3_2, s4_2, s5_2, s6_2, s7_2, s8_2, s9_2, f', rfl, hy, hI₁⟩ := hq
      obtain ⟨e₂, a₂, w₂, hq₂, harr₂⟩ := hY s0_2 s1_2 s2_2 s3_2 s4_2 s5_2 s6_2 s7_2 s8_2 s9_2 hy f' w₁ hI₁
      exact ⟨e₂, a₂, w₂, hq₂, .of_steps (Steps.trans harr (.one step_inLoop)) harr₂⟩
    | exit id => exact ⟨_, a₁, w₁, hq, .pass (x := .inLoop c) rfl (fun _ _ => .inl (by simp)) harr⟩
    | goto l => exact ⟨_, a₁, w₁, hq, .pass (x := .inLoop c) rfl (fun _ _ => .inl (by simp)) harr⟩
    | ret => exact ⟨_, a₁, w₁, hq, .pass (x := .inLoop c) rfl (fun _ _ => .inl (by simp)) harr⟩
    | panic ch => exact ⟨_, a₁, w₁, hq, .pass (x := .inLoop c) rfl (fun _ _ => .inl (by simp)) harr⟩
    | outgrown => exact ⟨_, a₁, w₁, hq, .pass (x := .inLoop c) rfl (fun _ _ => .inl (by simp)) harr⟩)
  obtain ⟨e, a', w', hq, harr⟩ := key f w h0
  exact ⟨e, a', w', hq, .of_steps (.one step_loop) harr⟩
theorem lp_loop11 {T0 T1 T2 T3 T4 T5 T6 T7 T8 T9 T10 : Type} {c : Code} (I : T0 → T1 → T2 → T3 → T4 → T5 → T6 → T7 → T8 → T9 → T10 → Fr → World → Prop) {body : T0 → T1 → T2 → T3 → T4 → T5 → T6 → T7 → T8 → T9 → T10 → (T0 → T1 → T2 → T3 → T4 → T5 → T6 → T7 → T8 → T9 → T10 → Prop) → Prop} {s0_0 s1_0 s2_0 s3_0 s4_0 s5_0 s6_0 s7_0 s8_0 s9_0 s10_0} (hL : Lp11 body s0_0 s1_0 s2_0 s3_0 s4_0 s5_0 s6_0 s7_0 s8_0 s9_0 s10_0) (h0 : I s0_0 s1_0 s2_0 s3_0 s4_0 s5_0 s6_0 s7_0 s8_0 s9_0 s10_0 f w)
    (round : ∀ s0_1 s1_1 s2_1 s3_1 s4_1 s5_1 s6_1 s7_1 s8_1 s9_1 s10_1 Y, body s0_1 s1_1 s2_1 s3_1 s4_1 s5_1 s6_1 s7_1 s8_1 s9_1 s10_1 Y → ∀ f w, I s0_1 s1_1 s2_1 s3_1 s4_1 s5_1 s6_1 s7_1 s8_1 s9_1 s10_1 f w → c.wp P (Exit.then (fun a' w' => ∃ s0_2 s1_2 s2_2 s3_2 s4_2 s5_2 s6_2 s7_2 s8_2 s9_2 s10_2 f', a' = mk n f' ∧ Y s0_2 s1_2 s2_2 s3_2 s4_2 s5_2 s6_2 s7_2 s8_2 s9_2 s10_2 ∧ I s0_2 s1_2 s2_2 s3_2 s4_2 s5_2 s6_2 s7_2 s8_2 s9_2 s10_2 f' w') Q) (mk n f) w) : (Code.loop c).wp P Q (mk n f) w := by
  intro b k cs
  have key := hL (fun s0_1 s1_1 s2_1 s3_1 s4_1 s5_1 s6_1 s7_1 s8_1 s9_1 s10_1 => ∀ f w, I s0_1 s1_1 s2_1 s3_1 s4_1 s5_1 s6_1 s7_1 s8_1 s9_1 s10_1 f w → ∃ e a' w', Q e a' w' ∧ Arrives P (lone (b.at (mk n f) (.code c :: .inLoop c :: k)) cs w) b k cs e a' w') (by
    intro s0_1 s1_1 s2_1 s3_1 s4_1 s5_1 s6_1 s7_1 s8_1 s9_1 s10_1 Y hY hb f w hI
    obtain ⟨e, a₁, w₁, hq, harr⟩ := round s0_1 s1_1 s2_1 s3_1 s4_1 s5_1 s6_1 s7_1 s8_1 s9_1 s10_1 Y hb f w hI b (.inLoop c :: k) cs
    cases e with
    | normal =>
      obtain ⟨s0_2, s1_2, s2_2, s3_2, s4_2, s5_2, s6_2, s7_2, s8_2, s9_2, s10_2, f', rfl, hy, hI₁⟩ := hq
      obtain ⟨e₂, a₂, w₂, hq₂, harr₂⟩ := hY s0_2 s1_2 s2_2 s3_2 s4_2 s5_2 s6_2 s7_2 s8_2 s9_2 s10_2 hy f' w₁ hI₁
      exact ⟨e₂, a₂, w₂, hq₂, .of_steps (Steps.trans harr (.one step_inLoop)) harr₂⟩
    | exit id => exact ⟨_, a₁, w₁, hq, .pass (x := .inLoop c) rfl (fun _ _ => .inl (by simp)) harr⟩
    | goto l => exact ⟨_, a₁, w₁, hq, .pass (x := .inLoop c) rfl (fun _ _ => .inl (by simp)) harr⟩
    | ret => exact ⟨_, a₁, w₁, hq, .pass (x := .inLoop c) rfl (fun _ _ => .inl (by simp)) harr⟩
    | panic ch => exact ⟨_, a₁, w₁, hq, .pass (x := .inLoop c) rfl (fun _ _ => .inl (by simp)) harr⟩
    | outgrown => exact ⟨_, a₁, w₁, hq, .pass (x := .inLoop c) rfl (fun _ _ => .inl (by simp)) harr⟩)
  obtain ⟨e, a', w', hq, harr⟩ := key f w h0
  exact ⟨e, a', w', hq, .of_steps (.one step_loop) harr⟩
theorem lp_loop12 {T0 T1 T2 T3 T4 T5 T6 T7 T8 T9 T10 T11 : Type} {c : Code} (I : T0 → T1 → T2 → T3 → T4 → T5 → T6 → T7 → T8 → T9 → T10 → T11 → Fr → World → Prop) {body : T0 → T1 → T2 → T3 → T4 → T5 → T6 → T7 → T8 → T9 → T10 → T11 → (T0 → T1 → T2 → T3 → T4 → T5 → T6 → T7 → T8 → T9 → T10 → T11 → Prop) → Prop} {s0_0 s1_0 s2_0 s3_0 s4_0 s5_0 s6_0 s7_0 s8_0 s9_0 s10_0 s11_0} (hL : Lp12 body s0_0 s1_0 s2_0 s3_0 s4_0 s5_0 s6_0 s7_0 s8_0 s9_0 s10_0 s11_0) (h0 : I s0_0 s1_0 s2_0 s3_0 s4_0 s5_0 s6_0 s7_0 s8_0 s9_0 s10_0 s11_0 f w)
    (round : ∀ s0_1 s1_1 s2_1 s3_1 s4_1 s5_1 s6_1 s7_1 s8_1 s9_1 s10_1 s11_1 Y, body s0_1 s1_1 s2_1 s3_1 s4_1 s5_1 s6_1 s7_1 s8_1 s9_1 s10_1 s11_1 Y → ∀ f w, I s0_1 s1_1 s2_1 s3_1 s4_1 s5_1 s6_1 s7_1 s8_1 s9_1 s10_1 s11_1 f w → c.wp P (Exit.then (fun a' w' => ∃ s0_2 s1_2 s2_2 s3_2 s4_2 s5_2 s6_2 s7_2 s8_2 s9_2 s10_2 s11_2 f', a' = mk n f' ∧ Y s0_2 s1_2 s2_2 s3_2 s4_2 s5_2 s6_2 s7_2 s8_2 s9_2 s10_2 s11_2 ∧ I s0_2 s1_2 s2_2 s3_2 s4_2 s5_2 s6_2 s7_2 s8_2 s9_2 s10_2 s11_2 f' w') Q) (mk n f) w) : (Code.loop c).wp P Q (mk n f) w := by
  intro b k cs
  have key := hL (fun s0_1 s1_1 s2_1 s3_1 s4_1 s5_1 s6_1 s7_1 s8_1 s9_1 s10_1 s11_1 => ∀ f w, I s0_1 s1_1 s2_1 s3_1 s4_1 s5_1 s6_1 s7_1 s8_1 s9_1 s10_1 s11_1 f w → ∃ e a' w', Q e a' w' ∧ Arrives P (lone (b.at (mk n f) (.code c :: .inLoop c :: k)) cs w) b k cs e a' w') (by
    intro s0_1 s1_1 s2_1 s3_1 s4_1 s5_1 s6_1 s7_1 s8_1 s9_1 s10_1 s11_1 Y hY hb f w hI
    obtain ⟨e, a₁, w₁, hq, harr⟩ := round s0_1 s1_1 s2_1 s3_1 s4_1 s5_1 s6_1 s7_1 s8_1 s9_1 s10_1 s11_1 Y hb f w hI b (.inLoop c :: k) cs
    cases e with
    | normal =>
      obtain ⟨s0_2, s1_2, s2_2, s3_2, s4_2, s5_2, s6_2, s7_2, s8_2, s9_2, s10_2, s11_2, f', rfl, hy, hI₁⟩ := hq
      obtain ⟨e₂, a₂, w₂, hq₂, harr₂⟩ := hY s0_2 s1_2 s2_2 s3_2 s4_2 s5_2 s6_2 s7_2 s8_2 s9_2 s10_2 s11_2 hy f' w₁ hI₁
      exact ⟨e₂, a₂, w₂, hq₂, .of_steps (Steps.trans harr (.one step_inLoop)) harr₂⟩
    | exit id => exact ⟨_, a₁, w₁, hq, .pass (x := .inLoop c) rfl (fun _ _ => .inl (by simp)) harr⟩
    | goto l => exact ⟨_, a₁, w₁, hq, .pass (x := .inLoop c) rfl (fun _ _ => .inl (by simp)) harr⟩
    | ret => exact ⟨_, a₁, w₁, hq, .pass (x := .inLoop c) rfl (fun _ _ => .inl (by simp)) harr⟩
    | panic ch => exact ⟨_, a₁, w₁, hq, .pass (x := .inLoop c) rfl (fun _ _ => .inl (by simp)) harr⟩
    | outgrown => exact ⟨_, a₁, w₁, hq, .pass (x := .inLoop c) rfl (fun _ _ => .inl (by simp)) harr⟩)
  obtain ⟨e, a', w', hq, harr⟩ := key f w h0
  exact ⟨e, a', w', hq, .of_steps (.one step_loop) harr⟩
variable {σ τ : Hv} {c : Cx} {ms ms' : List HObj}
/-- An element of a slice that reads. -/
theorem RSl.at {α : Type} {size : Nat} {R : Hv → List Value → α → Prop} {a : Option Addr} {len cap : Nat} {l : List α} (h : RSl size R σ (.slice a len cap) l) {k : Nat} {x : α} (hx : l[k]? = some x) :
    ∃ ad cs, a = some ad ∧ cs.length = size ∧ VRow σ (ad.add (k * size)) cs ∧ R σ cs x ∧ k < len := by
  obtain ⟨a', cap', h1, _, _, h4⟩ := h
  cases h1
  obtain ⟨ad, cs, e1, e2, e3, e4⟩ := h4 k x hx
  exact ⟨ad, cs, e1, e2, e3, e4, lt_of_getq hx⟩
theorem RSl.capLen {α : Type} {size : Nat} {R : Hv → List Value → α → Prop} {a : Option Addr} {len cap : Nat} {l : List α} (h : RSl size R σ (.slice a len cap) l) : len = l.length ∧ len ≤ cap := by
  obtain ⟨a', cap', h1, h2, _, _⟩ := h
  cases h1
  exact ⟨rfl, h2⟩
/-- The length of what is read. -/
theorem RSl.len63 {α : Type} {size : Nat} {R : Hv → List Value → α → Prop} {v : Value} {l : List α} (h : RSl size R σ v l) : l.length ≤ 9223372036854775807 := by have := h.len; omega
/-- An object moved to the front. -/
theorem St.front {w : World} (h : St c w σ ms) (i : Nat) {o : HObj} (hi : ms[i]? = some o) (hms : o :: ms.eraseIdx i = ms') : St c w σ ms' := by
  subst hms
  have hin := List.mem_of_getElem? hi
  refine ⟨h.keeps, h.view, h.sub, h.fresh, ?_, ?_, ?_, ?_⟩
  · intro p hp
    rcases List.mem_cons.1 hp with rfl | hp
    · exact h.own p hin
    · exact h.own p (List.mem_of_mem_eraseIdx hp)
  · refine List.pairwise_cons.2 ⟨fun p hp k hok => ?_, h.sep.sublist (List.eraseIdx_sublist _ _)⟩
    obtain ⟨j, hj, hp'⟩ := List.mem_eraseIdx_iff_getElem?.1 hp
    exact h.apart hi hp' hj k hok
  · intro p hp
    rcases List.mem_cons.1 hp with rfl | hp
    · exact h.off p hin
    · exact h.off p (List.mem_of_mem_eraseIdx hp)
  · intro p hp
    rcases List.mem_cons.1 hp with rfl | hp
    · exact h.new p hin
    · exact h.new p (List.mem_of_mem_eraseIdx hp)
/-- Only the first objects are kept. -/
theorem St.keep {w : World} (h : St c w σ ms) (k : Nat) (hms : ms.take k = ms') : St c w σ ms' := h.sublist (hms ▸ List.take_sublist _ _)
theorem St.re {w : World} (h : St c w σ ms) (hms : ms = ms') : St c w σ ms' := hms ▸ h
theorem getD_enc {α : Type} (enc : α → Value) (o : Option α) {y : α} {z : Value} (hz : enc y = z) : (o.map enc).getD z = enc (o.getD y) := by cases o <;> simp [hz]
/-- Ways meet behind two pieces. -/
theorem cut3 {x y z : Code} (M : Fr → World → Prop) (h : x.wp P (Exit.then (fun a w => y.wp P (Exit.then (fun a w => ∃ f, a = mk n f ∧ M f w) Q) a w) Q) (mk n f) w)
    (hz : ∀ f w, M f w → z.wp P Q (mk n f) w) : (Code.seq x (Code.seq y z)).wp P Q (mk n f) w := by
  refine wp_seq (Code.wp_mono ?_ h)
  intro e a w hq
  cases e with
  | normal =>
    refine wp_seq (Code.wp_mono ?_ hq)
    intro e a w hq
    cases e with
    | normal => obtain ⟨f', rfl, hM⟩ := hq; exact hz _ _ hM
    | _ => exact hq
  | _ => exact hq
theorem sml_bytes {k bytes : Nat} (h : Sml k) (hb : bytes ≤ 32768) : k * bytes ≤ 140737488355328 ∧ k ≤ maxLen := by
  unfold Sml at h
  refine ⟨Nat.le_trans (Nat.mul_le_mul h hb) (by omega), by unfold maxLen; omega⟩
section
variable {ops : Array Oper} {rest : List Oper} {d : Nat} {t : TypeId} {p : String} {af : Array Edge}
theorem o_app {st e : TypeId} {x y : Operand} {i : TypeInfo} {z : Value} {size bytes : Nat} (hu : P.underlying st = some (.slice e)) (hi : P.info? e = some i) (hz : i.zero = some z)
    (hsz : i.size = size) (hby : i.bytes = bytes) (hzs : z.cells.size = size) (hpos : 0 < size) {v : Value} {k k' q : Nat} {xs xs' : List Value} (hS : St c w σ ms) (hx : ev n f x = v) (hq : ms[q]? = some (vec v e size k xs))
    {a : Addr} {m cc : Nat} {news : List Value} (hy : ev n f y = .slice (some a) m cc) (hl : news.length = m * size) (hnews : Row w a news) (h1 : ∀ u ∈ news, u.oneCell' = true) (hsm : Sml k') (hbb : bytes ≤ 32768) (hk : k + m = k')
    (hxs : xs ++ news = xs') {Ms : Value → List HObj} (hms : ∀ v', ms.set q (vec v' e size k' xs') = Ms v')
    (h : ∀ v' w', v'.oneCell' = true → St c w' σ (Ms v') → wpList P ops Q rest (mk n (upd f d v')) w') :
    wpList P ops Q (⟨some d, .call ⟨.builtin .append, #[x, y], #[st, st]⟩, t, p, af, none⟩ :: rest) (mk n f) w := by
  subst hk
  exact o_append hu hi hz hsz hby hzs hpos hS hx hq hy hl hnews h1 (sml_bytes hsm hbb).1 (sml_bytes hsm hbb).2 hxs hms h
theorem o_appR {α : Type} {enc : α → List Value} {st e : TypeId} {x y : Operand} {i : TypeInfo} {z : Value} {size bytes : Nat} (hu : P.underlying st = some (.slice e)) (hi : P.info? e = some i) (hz : i.zero = some z)
    (hsz : i.size = size) (hby : i.bytes = bytes) (hzs : z.cells.size = size) (hpos : 0 < size) {v yv : Value} {k k' q : Nat} {xs xs' : List Value} {l : List α} {σ1 : Hv} (hS : St c w σ ms) (hx : ev n f x = v) (hq : ms[q]? = some (vec v e size k xs))
    (hy : ev n f y = yv) (hr : RSl size (REnc enc) σ1 yv l) (hV : View σ1 w) (he : ∀ x, (enc x).length = size) (h1 : ∀ x, ∀ u ∈ enc x, u.oneCell' = true) (hsm : Sml k') (hbb : bytes ≤ 32768) (hk : k + l.length = k')
    (hxs : xs ++ l.flatMap enc = xs') {Ms : Value → List HObj} (hms : ∀ v', ms.set q (vec v' e size k' xs') = Ms v')
    (h : ∀ v' w', v'.oneCell' = true → St c w' σ (Ms v') → wpList P ops Q rest (mk n (upd f d v')) w') :
    wpList P ops Q (⟨some d, .call ⟨.builtin .append, #[x, y], #[st, st]⟩, t, p, af, none⟩ :: rest) (mk n f) w := by
  subst hk
  exact o_append_rd hu hi hz hsz hby hzs hpos hS hx hq hy hr hV he h1 (sml_bytes hsm hbb).1 (sml_bytes hsm hbb).2 hxs hms h
/-- What an owned slice holds is appended to another one. -/
theorem o_appV {α : Type} {enc : α → List Value} {st e : TypeId} {x y : Operand} {i : TypeInfo} {z : Value} {size bytes : Nat} (hu : P.underlying st = some (.slice e)) (hi : P.info? e = some i) (hz : i.zero = some z)
    (hsz : i.size = size) (hby : i.bytes = bytes) (hzs : z.cells.size = size) (hpos : 0 < size) {v yv : Value} {k k' q qy : Nat} {xs xs' : List Value} {l : List α} (hS : St c w σ ms) (hx : ev n f x = v) (hq : ms[q]? = some (vec v e size k xs))
    (hy : ev n f y = yv) (hqy : ms[qy]? = some (vec yv e size l.length (l.flatMap enc))) (he : ∀ x, (enc x).length = size) (h1 : ∀ x, ∀ u ∈ enc x, u.oneCell' = true) (hsm : Sml k') (hbb : bytes ≤ 32768) (hk : k + l.length = k')
    (hxs : xs ++ l.flatMap enc = xs') {Ms : Value → List HObj} (hms : ∀ v', ms.set q (vec v' e size k' xs') = Ms v')
    (h : ∀ v' w', v'.oneCell' = true → St c w' σ (Ms v') → wpList P ops Q rest (mk n (upd f d v')) w') :
    wpList P ops Q (⟨some d, .call ⟨.builtin .append, #[x, y], #[st, st]⟩, t, p, af, none⟩ :: rest) (mk n f) w := by
  rcases (vec_shape (hS.get hqy)).2 with ⟨rfl, h0⟩ | ⟨g, cap, rfl, _⟩
  · have hl : l = [] := List.eq_nil_of_length_eq_zero h0
    subst hl
    exact o_appR hu hi hz hsz hby hzs hpos hS hx hq hy (RSl.nil (R := REnc enc) (σ := σ)) hS.view he h1 hsm hbb hk hxs hms h
  · exact o_app hu hi hz hsz hby hzs hpos hS hx hq hy (flat_len he l) (vec_row (hS.get hqy)) (fun u hu => by
      obtain ⟨x, _, hx⟩ := List.mem_flatMap.1 hu
      exact h1 x u hx) hsm hbb hk hxs hms h
end
/-- A temporary look at an owned slice. -/
theorem St.peek {α : Type} {enc : α → List Value} {size T : Nat} {w : World} {v : Value} {l : List α} (h : St c w σ ms) {i : Nat} (hi : ms[i]? = some (vec v T size l.length (l.flatMap enc))) (he : ∀ x, (enc x).length = size) (hl : Sml l.length) :
    ∃ σ1, St c w σ1 (ms.eraseIdx i) ∧ Sub σ σ1 ∧ RSl size (REnc enc) σ1 v l := by
  obtain ⟨σ1, h1, h2, h3⟩ := h.freeze' hi rfl
  exact ⟨σ1, h1, h2, RSl.ofVecEnc he (h.get hi) h3 rfl (by unfold Sml at hl; omega)⟩
def encI (x : Int) : List Value := [.int .i64 x]
theorem encI_len (x : Int) : (encI x).length = 1 := rfl
theorem encI_one (x : Int) : ∀ u ∈ encI x, u.oneCell' = true := by intro u hu; simp [encI] at hu; subst hu; rfl
def encB (x : Bool) : List Value := [.bool x]
theorem encB_len (x : Bool) : (encB x).length = 1 := rfl
theorem encB_one (x : Bool) : ∀ u ∈ encB x, u.oneCell' = true := by intro u hu; simp [encB] at hu; subst hu; rfl
theorem Grow.back1 {w1 : World} {b : Nat} {σ1 σ2 : Hv} (g : Grow [b] σ1 w σ2 w1) (hs : Sub σ σ1) : Grow [b] σ w σ w1 :=
  ⟨g.keeps, fun b o hb => g.view b o (g.sub b o (hs b o hb)), .refl _, fun _ _ _ => rfl⟩
theorem vec_posv {w : World} {v : Value} {T size k : Nat} {xs : List Value} (h : (vec v T size k xs).ok w) {i : Nat} (hi : i < k) : ∃ g cap, v = .slice (some ⟨g, 0, none⟩) k cap := vec_pos h (by omega)
theorem vec_cellv {α : Type} {enc : α → List Value} {size g cap T k : Nat} {w : World} (he : ∀ x, (enc x).length = size) {v0 : Value} (hv : v0 = .slice (some ⟨g, 0, none⟩) k cap) {l : List α} {i j : Nat} {x : α} {v : Value} (h : (vec v0 T size k (l.flatMap enc)).ok w) (hx : l[i]? = some x) (hj : (enc x)[j]? = some v) :
    w.cell? ⟨g, i * size + j, none⟩ = some v := by subst hv; exact vec_cell he h hx hj
theorem vec_partv {α : Type} {enc : α → List Value} {size g cap T k : Nat} {w : World} (he : ∀ x, (enc x).length = size) {v0 : Value} (hv : v0 = .slice (some ⟨g, 0, none⟩) k cap) {l : List α} {i : Nat} {x : α} (h : (vec v0 T size k (l.flatMap enc)).ok w) (hx : l[i]? = some x) :
    Row w ⟨g, i * size, none⟩ (enc x) := by subst hv; exact vec_part he h hx
theorem sc_n {a : Act} (h : Q .normal a w) : Exit.noGoto Q .normal a w := h
theorem sc_r {a : Act} (h : Q .ret a w) : Exit.noGoto Q .ret a w := h
theorem sc_e {a : Act} {i : Nat} (h : Q (.exit i) a w) : Exit.noGoto Q (.exit i) a w := h
theorem St.own0 {w0 w : World} {σ0 : Hv} {o : HObj} (h : St ⟨w0, σ0, []⟩ w σ ms) {i : Nat} (hi : ms[i]? = some o) : o.ok w ∧ ∀ k, o.foot = some k → w0.heap.size ≤ k ∧ σ0 k = none := by
  obtain ⟨h1, h2⟩ := h.own1 hi
  refine ⟨h1, fun k hk => ⟨(h2 k hk).1, ?_⟩⟩
  rcases hq : σ0 k with _ | x
  · rfl
  · have := h.sub k x hq
    rw [(h2 k hk).2] at this; cases this
theorem fresh_back {w1 : World} {o : HObj} {m : Nat} (h : o.ok w1 ∧ ∀ k, o.foot = some k → m ≤ k ∧ τ k = none) (hs : Sub σ τ) : o.ok w1 ∧ ∀ k, o.foot = some k → m ≤ k ∧ σ k = none := by
  refine ⟨h.1, fun k hk => ⟨(h.2 k hk).1, ?_⟩⟩
  rcases hq : σ k with _ | x
  · rfl
  · have := hs k x hq
    rw [(h.2 k hk).2] at this; cases this
theorem o_neqb {ops : Array Oper} {rest : List Oper} {d : Nat} {t : TypeId} {p : String} {af : Array Edge} {xt yt : TypeId} {x y : Operand} {a b r : Bool} (hu : P.underlying xt = some .bool) (hx : ev n f x = .bool a) (hy : ev n f y = .bool b) (hr : (!(a == b)) = r)
    (h : wpList P ops Q rest (mk n (upd f d (.bool r))) w) : wpList P ops Q (⟨some d, .binOp .neq xt x y yt, t, p, af, none⟩ :: rest) (mk n f) w :=
  o_val rfl rfl (by subst hr; simp [execOp, hx, hy, eqGuard, run_neq_bool _ _ _ _ hu]) h
section
variable {ops : Array Oper} {rest : List Oper} {d : Nat} {t : TypeId} {p : String} {af : Array Edge}
/-- An operation whose guard was passed over is passed over. -/
theorem o_offu {op : Op} {j dj : Nat} {b : Bool} (hj : (ops[j]?).bind (·.dst) = some dj) (hv : ev n f (.tmp dj) = undef)
    (h : wpList P ops Q rest (mk n (upd f d undef)) w) : wpList P ops Q (⟨some d, op, t, p, af, some (j, b)⟩ :: rest) (mk n f) w := by
  have hw : Region.wanted ⟨some d, op, t, p, af, some (j, b)⟩ (yielded ops (mk n f).tmps) = false := by
    have h2 : (mk n f).tmps.getD dj undef = undef := res_ev hv
    have h3 : (mk n f).tmps[dj]? = some undef ∨ (mk n f).tmps[dj]? = none := by
      rw [Array.getD_eq_getD_getElem?] at h2
      cases hx : (mk n f).tmps[dj]? with
      | none => right; rfl
      | some x => rw [hx] at h2; left; exact congrArg some h2
    rcases h3 with h3 | h3 <;> simp [Region.wanted, yielded, hj, h3, undef]
  unfold wpList
  rw [if_neg (by rw [hw]; simp)]
  rw [put_mk]
  exact h
theorem o_offun {op : Op} {j dj : Nat} {b : Bool} (hj : (ops[j]?).bind (·.dst) = some dj) (hv : ev n f (.tmp dj) = undef)
    (h : wpList P ops Q rest (mk n f) w) : wpList P ops Q (⟨none, op, t, p, af, some (j, b)⟩ :: rest) (mk n f) w := by
  have hw : Region.wanted ⟨none, op, t, p, af, some (j, b)⟩ (yielded ops (mk n f).tmps) = false := by
    have h2 : (mk n f).tmps.getD dj undef = undef := res_ev hv
    have h3 : (mk n f).tmps[dj]? = some undef ∨ (mk n f).tmps[dj]? = none := by
      rw [Array.getD_eq_getD_getElem?] at h2
      cases hx : (mk n f).tmps[dj]? with
      | none => right; rfl
      | some x => rw [hx] at h2; left; exact congrArg some h2
    rcases h3 with h3 | h3 <;> simp [Region.wanted, yielded, hj, h3, undef]
  unfold wpList
  rw [if_neg (by rw [hw]; simp)]
  exact h
end
/-! Which operations of a region have been taken, as a number. -/
section
variable {ops : Array Oper} {md : Region.Mode}
def bt (m k : Nat) : Array Bool := Array.ofFn (n := m) fun i => k.testBit i.val
theorem bt_set (m k i : Nat) : (bt m k).setIfInBounds i true = bt m (k ||| 1 <<< i) := by
  apply Array.ext
  · simp [bt]
  · intro j h1 h2
    have hj : j < m := by simpa [bt] using h1
    simp only [bt, Array.getElem_ofFn]
    rw [Array.getElem_setIfInBounds (by simpa using hj)]
    simp only [Array.getElem_ofFn, Nat.testBit_or, Nat.one_shiftLeft, Nat.testBit_two_pow]
    by_cases hij : i = j
    · simp [hij]
    · simp [hij]
theorem bt_zero (m : Nat) : Array.replicate m false = bt m 0 := by
  apply Array.ext
  · simp [bt]
  · intro j h1 h2; simp [bt]
def chkT (md : Region.Mode) (ops : Array Oper) (m k i k' : Nat) : Bool :=
  Region.noSelect ops && Region.free md ops (bt m k) i && (Region.ready md ops (bt m k)).contains i && Nat.beq (k ||| 1 <<< i) k'
theorem dt {J : World → Prop} {m k fuel d : Nat} (i k' : Nat) {oi : Oper} {v : Value} (hc : chkT md ops m k i k' = true) (hi : ops[i]? = some oi) (hd : oi.dst = some d) (hQ : ∀ c a w, Q (.panic c) (a.put (some d) v) w → Q (.panic c) a w) (hJ : J w)
    (hy : ∀ w, J w → ∀ K : Act → World → Prop, K (mk n (upd f d v)) w → wpList P ops (nrm K) [oi] (mk n f) w)
    (h : wpJ P md ops Q J fuel (bt m k') (mk n (upd f d v)) w) : wpJ P md ops Q J (fuel + 1) (bt m k) (mk n f) w := by
  simp only [chkT, Bool.and_eq_true] at hc
  obtain ⟨⟨⟨h1, h2⟩, h3⟩, h4⟩ := hc
  exact d_take hi h1 h2 h3 (by rw [bt_set, Nat.eq_of_beq_eq_true h4]) hd hQ hJ hy h
def chk1 (md : Region.Mode) (ops : Array Oper) (m k i k' : Nat) : Bool := (match Region.ready md ops (bt m k) with | [j] => Nat.beq j i | _ => false) && Nat.beq (k ||| 1 <<< i) k'
theorem d1 {J : World → Prop} {m k fuel : Nat} (i k' : Nat) {oi : Oper} (hc : chk1 md ops m k i k' = true) (hi : ops[i]? = some oi)
    (h : wpList P ops (nrm fun a w => J w ∧ wpJ P md ops Q J fuel (bt m k') a w) [oi] (mk n f) w) : wpJ P md ops Q J (fuel + 1) (bt m k) (mk n f) w := by
  simp only [chk1, Bool.and_eq_true] at hc
  obtain ⟨h1, h4⟩ := hc
  refine d_one (i := i) ?_ hi (by rw [bt_set, Nat.eq_of_beq_eq_true h4]) h
  split at h1
  · rename_i j hj; rw [hj, Nat.eq_of_beq_eq_true h1]
  · cases h1
def chk2 (md : Region.Mode) (ops : Array Oper) (m k i j : Nat) : Bool := match Region.ready md ops (bt m k) with | [x, y] => Nat.beq x i && Nat.beq y j | _ => false
theorem d2 {J : World → Prop} {m k fuel : Nat} (i j ki kj : Nat) {oi oj : Oper} (hc : chk2 md ops m k i j = true) (hki : k ||| 1 <<< i = ki) (hkj : k ||| 1 <<< j = kj) (hi : ops[i]? = some oi) (hj : ops[j]? = some oj)
    (h : wpList P ops (nrm fun a w => J w ∧ wpJ P md ops Q J fuel (bt m ki) a w) [oi] (mk n f) w) (h' : wpList P ops (nrm fun a w => J w ∧ wpJ P md ops Q J fuel (bt m kj) a w) [oj] (mk n f) w) : wpJ P md ops Q J (fuel + 1) (bt m k) (mk n f) w := by
  refine d_two (i := i) (j := j) ?_ hi hj (by rw [bt_set, hki]) (by rw [bt_set, hkj]) h h'
  unfold chk2 at hc
  split at hc
  · rename_i x y hxy
    simp only [Bool.and_eq_true] at hc
    rw [hxy, Nat.eq_of_beq_eq_true hc.1, Nat.eq_of_beq_eq_true hc.2]
  · cases hc
theorem dr {id m : Nat} (J : World → Prop) (hm : P.follows .mixedOrders = true) (hs : ops.size = m)
    (h : wpJ P .any ops Q J m (bt m 0) (mk n f) w.drew) : (Code.region id ops true).wp P Q (mk n f) w := d_reg J hm hs (bt_zero m) h
theorem dz {J : World → Prop} {m k : Nat} {a : Act} (hr : (Region.ready md ops (bt m k)).isEmpty = true) (h : Q .normal a w) : wpJ P md ops Q J 0 (bt m k) a w := d_done (List.isEmpty_iff.1 hr) h
end

/-! slices.Delete at a list of the call's own. -/
open Go.Sort Go.Proofs in
theorem delete_vec {fid : FuncId} (c1 : ∀ (blk off cap i j : Nat) (zs : List (List UInt8)) (w : World), Holds encStr w blk off zs.toArray → zs.length ≤ cap → cap ≤ 9223372036854775807 → i ≤ j → j ≤ zs.length →
      Calls P fid #[.slice (some ⟨blk, off, none⟩) zs.length cap, .int .i64 i, .int .i64 j] w fun e w' => e = .returned (.slice (some ⟨blk, off, none⟩) (zs.length - (j - i)) cap) ∧ ∃ q, w' = putRow encStr (Sort.ahead w q) blk off (zs.take i ++ zs.drop j ++ List.replicate (j - i) []).toArray)
    {v : Value} {T : TypeId} {l : List ByteArray} {i j : Nat} {w : World} (hV : View σ w) (ho : (vec v T 1 l.length (l.flatMap encTx)).ok w) (hoff : ∀ b, v.ownBlock = some b → σ b = none) (hij : i ≤ j) (hj : j ≤ l.length) (hlt : i < j) :
    Calls P fid #[v, .int .i64 ((i : Nat) : Int), .int .i64 ((j : Nat) : Int)] w fun e w1 => ∃ v1, e = .returned v1 ∧ v1.ownBlock = v.ownBlock ∧ Grow v.ownBlock.toList σ w σ w1 ∧ (vec v1 T 1 (l.take i ++ l.drop j).length ((l.take i ++ l.drop j).flatMap encTx)).ok w1 := by
  have ho' : w.ownsRow 0 T 1 v l.length (l.flatMap encTx) := ho
  rcases ho'.2 with ⟨rfl, h0⟩ | ⟨g, cap, cur, rfl, hb0, hb, h1, h2, h3, h4⟩
  · omega
  · have h4' : cur.toList.take (l.map (·.data.toList)).length = (l.map (·.data.toList)).map encStr := by rw [List.length_map, ← flat_encTx]; simpa using h4
    have hc := c1 g 0 cap i j (l.map (·.data.toList)) w (holds_of_block hb h4') (by simpa using h1) (by unfold maxLen at h2; omega) hij (by simpa using hj)
    rw [List.length_map] at hc
    refine hc.mono ?_
    rintro e w1 ⟨rfl, q, rfl⟩
    refine ⟨_, rfl, rfl, grow_of_grownBy hV (grownBy_put _) hoff, ?_⟩
    have ho2 : w.ownsRow 0 T 1 (.slice (some ⟨g, 0, none⟩) l.length cap) l.length ((l.map (·.data.toList)).map encStr) := by rw [← flat_encTx]; exact ho'
    have hlen : (l.take i ++ l.drop j).length = l.length - (j - i) := by simp; omega
    have hr := Go.Lib.ownsRow_putRow (q := q) (k := l.length - (j - i)) (ys := (l.map (·.data.toList)).take i ++ (l.map (·.data.toList)).drop j ++ List.replicate (j - i) []) ho2 (by simp; omega) (by omega)
    rw [List.take_left' (by simp; omega)] at hr
    show World.ownsRow _ 0 T 1 _ (l.take i ++ l.drop j).length ((l.take i ++ l.drop j).flatMap encTx)
    rw [flat_encTx, hlen]
    have e1 : (l.take i ++ l.drop j).map (·.data.toList) = (l.map (·.data.toList)).take i ++ (l.map (·.data.toList)).drop j := by simp
    rw [e1]
    exact hr
/-- A slice is nil or not: if it is, nothing is in it. -/
theorem RSl.isNil {α : Type} {size : Nat} {R : Hv → List Value → α → Prop} {a : Option Addr} {len cap : Nat} {l : List α} (h : RSl size R σ (.slice a len cap) l) : a.isNone = true → l = [] := by
  intro hn
  cases a with
  | some _ => cases hn
  | none =>
    cases l with
    | nil => rfl
    | cons x l =>
      obtain ⟨_, _, h1, _, _, h4⟩ := h
      obtain ⟨ad, _, h0, _⟩ := h4 0 x rfl
      cases h1; cases h0
section
variable {ops : Array Oper} {rest : List Oper} {d : Nat} {t : TypeId} {p : String} {af : Array Edge}
theorem o_eqlnil {xt yt e : TypeId} {x : Operand} {a : Option Addr} {len cap : Nat} {r : Bool} (hu : P.underlying xt = some (.slice e)) (hx : ev n f x = .slice a len cap) (hr : a.isNone = r)
    (h : wpList P ops Q rest (mk n (upd f d (.bool r))) w) : wpList P ops Q (⟨some d, .binOp .eql xt x (.const (.slice none 0 0)) yt, t, p, af, none⟩ :: rest) (mk n f) w :=
  o_val rfl rfl (by
    subst hr
    have hy : ev n f (.const (.slice none 0 0)) = .slice none 0 0 := rfl
    simp [execOp, hx, hy, eqGuard, binOp, Op.equal, Op.maxDepth, Lib.run_equalIn_slice_nil w 9999 xt e a len cap 0 0 hu]) h
theorem o_neqnil {xt yt e : TypeId} {x : Operand} {a : Option Addr} {len cap : Nat} {r : Bool} (hu : P.underlying xt = some (.slice e)) (hx : ev n f x = .slice a len cap) (hr : (!a.isNone) = r)
    (h : wpList P ops Q rest (mk n (upd f d (.bool r))) w) : wpList P ops Q (⟨some d, .binOp .neq xt x (.const (.slice none 0 0)) yt, t, p, af, none⟩ :: rest) (mk n f) w :=
  o_val rfl rfl (by
    subst hr
    have hy : ev n f (.const (.slice none 0 0)) = .slice none 0 0 := rfl
    simp [execOp, hx, hy, eqGuard, binOp, Op.equal, Op.maxDepth, Lib.run_equalIn_slice_nil w 9999 xt e a len cap 0 0 hu]) h
end
def encEd (x : ByteArray × ByteArray) : List Value := [.string x.1, .string x.2]
theorem encEd_len (x : ByteArray × ByteArray) : (encEd x).length = 2 := rfl
theorem encEd_one (x : ByteArray × ByteArray) : ∀ u ∈ encEd x, u.oneCell' = true := by
  intro u hu; simp [encEd] at hu; rcases hu with rfl | rfl <;> rfl

end Go.Fl
