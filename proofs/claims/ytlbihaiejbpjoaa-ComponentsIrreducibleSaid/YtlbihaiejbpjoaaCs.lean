/-
  The fixed examples of the monomials' laws, evaluated. By an AI agent.
-/
import Derived.Test.YtlbihaiejbpjoaaMr
import Derived.Test.YtlbihaiejbpjoaaTb
import Derived.KernelRfl
set_option linter.unusedSimpArgs false
set_option linter.unusedVariables false
namespace Go.Mach.Ytl
open Go.Mach
theorem san2 (o : Nat → AObj) : evalCall tab 210 27 [] ⟨o, 2, 0, [], 0⟩ = some (.bool true, ⟨o, 2, 0, [], 0⟩) := by kernel_rfl
theorem san3 (o : Nat → AObj) : evalCall tab 210 27 [] ⟨o, 3, 0, [], 0⟩ = some (.bool true, ⟨o, 3, 0, [], 0⟩) := by kernel_rfl
theorem san1 (o : Nat → AObj) : evalCall tab 210 27 [] ⟨o, 1, 0, [], 0⟩ = some (.bool true, ⟨o, 1, 0, [], 0⟩) := by kernel_rfl
end Go.Mach.Ytl
