/-
  Pruned copy of the text Ct. By an AI agent.
-/
import Derived.Test.YtlbihaiejbpjoaaMr
import Derived.Test.YtlbihaiejbpjoaaZ3Tb
import Derived.KernelRfl
set_option linter.unusedSimpArgs false
set_option linter.unusedVariables false
namespace Go.Mach.Ytl
open Go.Mach
theorem san21_0 (o : Nat → AObj) : evalCall tab 100 18 [] ⟨o, 0, 0, [], 0⟩ = some (.bool true, ⟨o, 0, 0, [], 0⟩) := by kernel_rfl
end Go.Mach.Ytl
