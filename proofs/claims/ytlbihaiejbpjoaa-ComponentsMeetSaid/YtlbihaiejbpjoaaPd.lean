/-
  Law 6 (MonomialLimits) in the machine. By an AI agent.
-/
import Derived.Test.YtlbihaiejbpjoaaPa
set_option linter.unusedSimpArgs false
set_option linter.unusedVariables false
set_option maxRecDepth 100000
namespace Go.Mach.Ytl
open Go.Mach
section
variable {s : List Jtm} {k : KF} {Q : AV → Heap → Prop}
theorem loadI {m : Mo} {i : Nat} (h : i < 8) : part false 1 m.cells i = some (.int .i64 (m.get i)) := by
  rw [part_false]; exact get_cells h
theorem call_45' {a : Mo} {H : Heap} : callI tab 45 [mono a] H = some (.bool (decide a.valid), H) := callI_of (call_45 (n := 0))
theorem valid_get {m : Mo} : m.valid ↔ ∀ q, q < 8 → 0 ≤ m.get q ∧ m.get q ≤ 65535 := by
  unfold Mo.valid
  constructor
  · rintro ⟨h0, h1, h2, h3, h4, h5, h6, h7⟩ q hq
    match q, hq with
    | 0, _ => exact h0
    | 1, _ => exact h1
    | 2, _ => exact h2
    | 3, _ => exact h3
    | 4, _ => exact h4
    | 5, _ => exact h5
    | 6, _ => exact h6
    | 7, _ => exact h7
  · intro h
    exact ⟨h 0 (by omega), h 1 (by omega), h 2 (by omega), h 3 (by omega), h 4 (by omega), h 5 (by omega), h 6 (by omega), h 7 (by omega)⟩
theorem l6_1 {m : Mo} {H : Heap} {p : Nat} (hm : H.obj p = .cells m.cells none) {v3 v5 : AV} : ∀ (r j : Nat) (w : Bool) (σ : Sig), 8 - j = r → j ≤ 8 → σ 2 = .ptr p 0 → σ 3 = v3 → σ 5 = v5 → σ 6 = .bool w → σ 7 = .int .i64 (j : Nat) → (w = true ↔ ∀ q, q < j → 0 ≤ m.get q ∧ m.get q ≤ 65535) →
    (∀ σ', σ' 2 = .ptr p 0 → σ' 3 = v3 → σ' 5 = v5 → σ' 6 = .bool (decide m.valid) → Res (ai (callI tab) s k .nrm σ' H) Q) → Res (li (callI tab) L6_1 (.inBlock 0 :: s) k σ H) Q := by
  intro r
  induction r with
  | zero =>
    intro j w σ hr hj h2 h3 h5 h6 h7 hw hQ
    have : j = 8 := by omega
    subst this
    have hwv : w = decide m.valid := by
      rw [Bool.eq_iff_iff, hw, decide_eq_true_eq, valid_get]
    rw [hwv] at h6
    obtain ⟨il, hil⟩ : ∃ x, x = Jtm.inLoop L6_1 := ⟨_, rfl⟩; rw [li_eq' il hil]
    simp -implicitDefEqProofs (disch := first | omega | with_unfolding_all exact eqR (Eq.refl _)) [nums, -getElem!_pos, -Int.natCast_add, -Int.natCast_mul, -Int.natCast_ediv, L6_1, S6_0, h2, h3, h5, h6, h7]
    subst hil
    try simp -implicitDefEqProofs (disch := first | omega | with_unfolding_all exact eqR (Eq.refl _)) [nums, -getElem!_pos, -Int.natCast_add, -Int.natCast_mul, -Int.natCast_ediv]
    refine hQ _ ?_ ?_ ?_ ?_ <;> simp [h2, h3, h5, h6]
  | succ r ih =>
    intro j w σ hr hj h2 h3 h5 h6 h7 hw hQ
    have step : ∀ w' : Bool, (w' = true ↔ (w = true ∧ 0 ≤ m.get j ∧ m.get j ≤ 65535)) → (w' = true ↔ ∀ q, q < j + 1 → 0 ≤ m.get q ∧ m.get q ≤ 65535) := by
      intro w' h
      rw [h, hw]
      constructor
      · rintro ⟨h1, h2⟩ q hq
        by_cases hqj : q = j
        · subst hqj; exact h2
        · exact h1 q (by omega)
      · intro h; exact ⟨fun q hq => h q (by omega), h j (by omega)⟩
    cases w with
    | false =>
      obtain ⟨il, hil⟩ : ∃ x, x = Jtm.inLoop L6_1 := ⟨_, rfl⟩; rw [li_eq' il hil]
      simp -implicitDefEqProofs (disch := first | omega | with_unfolding_all exact eqR (Eq.refl _)) [nums, -getElem!_pos, -Int.natCast_add, -Int.natCast_mul, -Int.natCast_ediv, L6_1, S6_0, h2, h3, h5, h6, h7]
      subst hil
      try simp -implicitDefEqProofs (disch := first | omega | with_unfolding_all exact eqR (Eq.refl _)) [nums, -getElem!_pos, -Int.natCast_add, -Int.natCast_mul, -Int.natCast_ediv]
      refine ih (j + 1) false _ (by omega) (by omega) ?_ ?_ ?_ ?_ ?_ (step false (by simp)) hQ
      all_goals simp [h2, h3, h5, h6, h7]
    | true =>
      by_cases c1 : 0 ≤ m.get j
      · by_cases c2 : m.get j ≤ 65535
        · obtain ⟨il, hil⟩ : ∃ x, x = Jtm.inLoop L6_1 := ⟨_, rfl⟩; rw [li_eq' il hil]
          simp -implicitDefEqProofs (disch := first | omega | with_unfolding_all exact eqR (Eq.refl _)) [nums, -getElem!_pos, -Int.natCast_add, -Int.natCast_mul, -Int.natCast_ediv, L6_1, S6_0, h2, h3, h5, h6, h7, hm, iaddr_arr, loadI]
          subst hil
          try simp -implicitDefEqProofs (disch := first | omega | with_unfolding_all exact eqR (Eq.refl _)) [nums, -getElem!_pos, -Int.natCast_add, -Int.natCast_mul, -Int.natCast_ediv]
          refine ih (j + 1) true _ (by omega) (by omega) ?_ ?_ ?_ ?_ ?_ (step true (by simp [c1, c2])) hQ
          all_goals simp [h2, h3, h5, h6, h7]
        · obtain ⟨il, hil⟩ : ∃ x, x = Jtm.inLoop L6_1 := ⟨_, rfl⟩; rw [li_eq' il hil]
          simp -implicitDefEqProofs (disch := first | omega | with_unfolding_all exact eqR (Eq.refl _)) [nums, -getElem!_pos, -Int.natCast_add, -Int.natCast_mul, -Int.natCast_ediv, L6_1, S6_0, h2, h3, h5, h6, h7, hm, iaddr_arr, loadI]
          subst hil
          try simp -implicitDefEqProofs (disch := first | omega | with_unfolding_all exact eqR (Eq.refl _)) [nums, -getElem!_pos, -Int.natCast_add, -Int.natCast_mul, -Int.natCast_ediv]
          refine ih (j + 1) false _ (by omega) (by omega) ?_ ?_ ?_ ?_ ?_ (step false (by simp [c2])) hQ
          all_goals simp [h2, h3, h5, h6, h7]
      · obtain ⟨il, hil⟩ : ∃ x, x = Jtm.inLoop L6_1 := ⟨_, rfl⟩; rw [li_eq' il hil]
        simp -implicitDefEqProofs (disch := first | omega | with_unfolding_all exact eqR (Eq.refl _)) [nums, -getElem!_pos, -Int.natCast_add, -Int.natCast_mul, -Int.natCast_ediv, L6_1, S6_0, h2, h3, h5, h6, h7, hm, iaddr_arr, loadI]
        subst hil
        try simp -implicitDefEqProofs (disch := first | omega | with_unfolding_all exact eqR (Eq.refl _)) [nums, -getElem!_pos, -Int.natCast_add, -Int.natCast_mul, -Int.natCast_ediv]
        refine ih (j + 1) false _ (by omega) (by omega) ?_ ?_ ?_ ?_ ?_ (step false (by simp [c1])) hQ
        all_goals simp [h2, h3, h5, h6, h7]

def two (a b : Int) : AV := .agg [.int .i64 a, .int .i64 b]
theorem load20 {a b : AV} : part false 1 [a, b] 0 = some a := rfl
theorem load21 {a b : AV} : part false 1 [a, b] 1 = some b := rfl
theorem ia20 {id : Nat} : iaddrA (some 2) 1 (.ptr id 0) (.int .i64 0) = some (.ptr id 0) := rfl
theorem ia21 {id : Nat} : iaddrA (some 2) 1 (.ptr id 0) (.int .i64 1) = some (.ptr id 1) := rfl
theorem law6 {m : Mo} {a b : Int} : Res (callI tab 6 [mono m, two a b] Heap.empty) fun e _ => e = .bool true := by
  refine .hide fun Q hQ => .enter tab_6 (by simp [AF6]) (.inr (by simp [two])) ?_
  have hs : callI tab 27 [] ((Heap.empty.begin.new (.cells m.cells none)).new (.cells [.int .i64 a, .int .i64 b] none)) = some (.bool true, (Heap.empty.begin.new (.cells m.cells none)).new (.cells [.int .i64 a, .int .i64 b] none)) := callI_of (san2 _)
  have hv := fun H => call_45' (a := m) (H := H)
  simp -implicitDefEqProofs (disch := first | omega | with_unfolding_all exact eqR (Eq.refl _)) [nums, -getElem!_pos, -Int.natCast_add, -Int.natCast_mul, -Int.natCast_ediv, AF6, two, hs, S6_5]
  refine l6_1 (m := m) (p := 0) ?_ (v3 := .ptr 1 0) (v5 := .bool true) _ 0 true _ rfl (by omega) ?_ ?_ ?_ ?_ ?_ (by simp) fun σ b2 b3 b5 b6 => ?_
  any_goals (first | (simp; done) | skip)
  by_cases c1 : 0 ≤ a
  · by_cases c2 : a ≤ 8
    · by_cases c3 : 0 ≤ b
      · by_cases c4 : b ≤ 12
        · obtain ⟨n, rfl⟩ : ∃ n : Nat, a = n := ⟨a.toNat, by omega⟩
          obtain ⟨d, rfl⟩ : ∃ d : Nat, b = d := ⟨b.toNat, by omega⟩
          by_cases c5 : 14 < n + d
          · simp -implicitDefEqProofs (disch := first | omega | with_unfolding_all exact eqR (Eq.refl _)) [nums, -getElem!_pos, -Int.natCast_add, -Int.natCast_mul, -Int.natCast_ediv, S6_4, b2, b3, b5, b6, load20, load21, ia20, ia21, hv]
            exact .mk (hQ _ _ rfl)
          · simp -implicitDefEqProofs (disch := first | omega | with_unfolding_all exact eqR (Eq.refl _)) [nums, -getElem!_pos, -Int.natCast_add, -Int.natCast_mul, -Int.natCast_ediv, S6_4, b2, b3, b5, b6, load20, load21, ia20, ia21, hv, S6_3]
            refine .call (call_46 (n := n) (d := d) (by omega) (by omega)) fun e H2 ⟨hH, v, he, hml⟩ => ?_
            subst he hH
            simp -implicitDefEqProofs (disch := first | omega | with_unfolding_all exact eqR (Eq.refl _)) [nums, -getElem!_pos, -Int.natCast_add, -Int.natCast_mul, -Int.natCast_ediv, b5, b6]
            exact .mk (hQ _ _ rfl)
        · have hc := fun H => call_46n (n := a) (d := b) (H := H) (by omega)
          simp -implicitDefEqProofs (disch := first | omega | with_unfolding_all exact eqR (Eq.refl _)) [nums, -getElem!_pos, -Int.natCast_add, -Int.natCast_mul, -Int.natCast_ediv, S6_4, b2, b3, b5, b6, load20, load21, ia20, ia21, hv, S6_3, S6_2, hc]
          exact .mk (hQ _ _ rfl)
      · have hc := fun H => call_46n (n := a) (d := b) (H := H) (by omega)
        simp -implicitDefEqProofs (disch := first | omega | with_unfolding_all exact eqR (Eq.refl _)) [nums, -getElem!_pos, -Int.natCast_add, -Int.natCast_mul, -Int.natCast_ediv, S6_4, b2, b3, b5, b6, load20, load21, ia20, ia21, hv, S6_3, S6_2, hc]
        exact .mk (hQ _ _ rfl)
    · have hc := fun H => call_46n (n := a) (d := b) (H := H) (by omega)
      simp -implicitDefEqProofs (disch := first | omega | with_unfolding_all exact eqR (Eq.refl _)) [nums, -getElem!_pos, -Int.natCast_add, -Int.natCast_mul, -Int.natCast_ediv, S6_4, b2, b3, b5, b6, load20, load21, ia20, ia21, hv, S6_3, S6_2, hc]
      exact .mk (hQ _ _ rfl)
  · have hc := fun H => call_46n (n := a) (d := b) (H := H) (by omega)
    simp -implicitDefEqProofs (disch := first | omega | with_unfolding_all exact eqR (Eq.refl _)) [nums, -getElem!_pos, -Int.natCast_add, -Int.natCast_mul, -Int.natCast_ediv, S6_4, b2, b3, b5, b6, load20, load21, ia20, ia21, hv, S6_3, S6_2, hc]
    exact .mk (hQ _ _ rfl)
end
end Go.Mach.Ytl
