/-
  Pruned copy of the text Sh. By an AI agent.
-/
import Derived.Test.YtlbihaiejbpjoaaZ4Va
import Derived.Test.YtlbihaiejbpjoaaZ4Vb
import Derived.Test.YtlbihaiejbpjoaaZ4Sf
set_option linter.unusedSimpArgs false
set_option linter.unusedVariables false
set_option maxRecDepth 100000
namespace Go.Mach.Ytl
open Go.Mach
section
variable {s : List Jtm} {k : KF} {Q : AV → Heap → Prop}
attribute [local simp] guardI_u
theorem l26_1 {x : Nat} (hx : x < 256) {H : Heap} : ∀ (m j : Nat) (σ : Sig), 8 - j = m → j ≤ 8 → σ 0 = .int .u8 (x : Nat) → σ 3 = .int .i64 (onesTo x j : Nat) → σ 4 = .int .i64 (j : Nat) →
    (∀ σ', σ' 3 = .int .i64 (onesN x : Nat) → Res (ai (callI tab) s k .nrm σ' H) Q) →
    Res (li (callI tab) L26_1 (.inBlock 0 :: s) k σ H) Q := by
  intro m
  induction m with
  | zero =>
    intro j σ hm hj h0 h3 h4 hQ
    have : j = 8 := by omega
    subst this
    rw [show onesTo x 8 = onesN x from rfl] at h3
    obtain ⟨il, hil⟩ : ∃ x, x = Jtm.inLoop L26_1 := ⟨_, rfl⟩; rw [li_eq' il hil]
    simp -implicitDefEqProofs (disch := first | omega | with_unfolding_all exact eqR (Eq.refl _)) [nums, -getElem!_pos, -Int.natCast_add, -Int.natCast_mul, -Int.natCast_ediv, L26_1, S26_0, h0, h3, h4]
    subst hil
    try simp -implicitDefEqProofs (disch := first | omega | with_unfolding_all exact eqR (Eq.refl _)) [nums, -getElem!_pos, -Int.natCast_add, -Int.natCast_mul, -Int.natCast_ediv]
    refine hQ _ ?_
    simp [h3]
  | succ m ih =>
    intro j σ hm hj h0 h3 h4 hQ
    have hj8 : j < 8 := by omega
    have hc : ((j : Nat) : Int) < 8 := by omega
    have hbe := bit_eq hx hj8
    have hle := onesTo_le (s := x) j
    have h2 : x / 2 ^ j % 2 < 2 := Nat.mod_lt _ (by omega)
    have hst : onesTo x j + x / 2 ^ j % 2 = onesTo x (j + 1) := rfl
    have ih' := ih (j + 1)
    rw [← hst] at ih'
    generalize x / 2 ^ j % 2 = bt at hbe h2 ih'
    generalize onesTo x j = o at h3 hle ih'
    obtain ⟨il, hil⟩ : ∃ x, x = Jtm.inLoop L26_1 := ⟨_, rfl⟩; rw [li_eq' il hil]
    simp -implicitDefEqProofs (disch := first | omega | with_unfolding_all exact eqR (Eq.refl _)) [nums, -getElem!_pos, -Int.natCast_add, -Int.natCast_mul, -Int.natCast_ediv, L26_1, S26_0, h0, h3, h4, hc, hbe]
    subst hil
    try simp -implicitDefEqProofs (disch := first | omega | with_unfolding_all exact eqR (Eq.refl _)) [nums, -getElem!_pos, -Int.natCast_add, -Int.natCast_mul, -Int.natCast_ediv]
    refine ih' _ (by omega) (by omega) ?_ ?_ ?_ hQ
    all_goals simp [h0]
theorem call_26 {x : Nat} (hx : x < 256) {H : Heap} : callI tab 26 [.int .u8 (x : Nat)] H = some (.int .i64 (onesN x : Nat), H) := by
  have : Res (callI tab 26 [.int .u8 (x : Nat)] H) fun e H' => e = .int .i64 (onesN x : Nat) ∧ H' = H := by
    refine .hide fun Q hQ => .enter tab_26 (by simp [AF26]) (.inr (by simp)) ?_
    simp -implicitDefEqProofs (disch := first | omega | with_unfolding_all exact eqR (Eq.refl _)) [nums, -getElem!_pos, -Int.natCast_add, -Int.natCast_mul, -Int.natCast_ediv, AF26]
    refine l26_1 hx _ 0 _ rfl (by omega) ?_ ?_ ?_ fun σ' q3 => ?_
    any_goals (first | (simp [onesTo]; done) | skip)
    simp -implicitDefEqProofs (disch := first | omega | with_unfolding_all exact eqR (Eq.refl _)) [nums, -getElem!_pos, -Int.natCast_add, -Int.natCast_mul, -Int.natCast_ediv, S26_2, q3]
    exact .mk (hQ _ _ ⟨rfl, rfl⟩)
  obtain ⟨e, H', h, rfl, rfl⟩ := this
  exact h
end
end Go.Mach.Ytl
