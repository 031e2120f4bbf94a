/-
  Pruned copy of the text Ce. By an AI agent.
-/
import Derived.Test.YtlbihaiejbpjoaaZ14Cd
set_option linter.unusedSimpArgs false
set_option linter.unusedVariables false
set_option maxRecDepth 100000
namespace Go.Mach.Ytl
open Go.Mach
attribute [local simp] part_false part_true stO_some wrap_int wrap_byte binA ibin
theorem le_refl {a : Mo} : Mo.le a a := by unfold Mo.le; omega
theorem le_trans {a b c : Mo} (h : Mo.le a b) (k : Mo.le b c) : Mo.le a c := by unfold Mo.le at *; omega
theorem le_antisymm {a b : Mo} (h : Mo.le a b) (k : Mo.le b a) : a = b := by
  obtain ⟨a0, a1, a2, a3, a4, a5, a6, a7⟩ := a
  obtain ⟨b0, b1, b2, b3, b4, b5, b6, b7⟩ := b
  simp only [Mo.le] at h k
  simp only [Mo.mk.injEq]
  omega
theorem zero_le {a : Mo} (h : a.valid) : Mo.le Mo.zero a := by unfold Mo.le Mo.zero; unfold Mo.valid at h; simp only; omega
theorem max_le_iff {a b c : Mo} : Mo.le (Mo.map2 imax a b) c ↔ Mo.le a c ∧ Mo.le b c := by
  have key : ∀ p q r : Int, imax p q ≤ r ↔ p ≤ r ∧ q ≤ r := fun p q r => by unfold imax; split <;> omega
  simp only [Mo.le, Mo.map2, key]
  constructor <;> (intro h; omega)
end Go.Mach.Ytl
