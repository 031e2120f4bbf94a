/-
  Pruned copy of the text Ct. By an AI agent.
-/
import Derived.Test.YtlbihaiejbpjoaaGreatMr
import Derived.Test.YtlbihaiejbpjoaaGreatZ10Tb
import Derived.KernelRfl
set_option linter.unusedSimpArgs false
set_option linter.unusedVariables false
namespace Go.Mach.Ytl
open Go.Mach
theorem san21_1 (o : Nat → AObj) : evalCall tab 100 4 [] ⟨o, 1, 0, [], 0⟩ = some (.bool true, ⟨o, 1, 0, [], 0⟩) := by kernel_rfl
end Go.Mach.Ytl
