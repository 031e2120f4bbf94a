/-
  Pruned copy of the text Vb. By an AI agent.
-/
import Derived.Test.YtlbihaiejbpjoaaGreatZ10Se
set_option linter.unusedSimpArgs false
set_option linter.unusedVariables false
set_option maxRecDepth 100000
namespace Go.Mach.Ytl
open Go.Mach
theorem sup_small {n : Nat} {m : Mo} (hm : Box n m) (hn : n ≤ 4) : supN m < 2 ^ n := by
  apply Nat.lt_pow_two_of_testBit
  intro i hi
  by_cases h8 : i < 8
  · rw [supN_bit m h8, decide_eq_false_iff_not]
    have := (hm i).2.2 hi; omega
  · have h := supN_lt m
    have : (256 : Nat) ≤ 2 ^ i := by
      have : 2 ^ 8 ≤ 2 ^ i := Nat.pow_le_pow_right (by omega) (by omega)
      omega
    exact Nat.testBit_lt_two_pow (by omega)
end Go.Mach.Ytl
