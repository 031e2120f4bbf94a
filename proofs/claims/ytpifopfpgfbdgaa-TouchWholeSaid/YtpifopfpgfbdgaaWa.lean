/-
  TouchWhole in the machine: the fixed examples, Whole, the law. By an AI agent.
-/
import Derived.Test.YtpifopfpgfbdgaaMr
import Derived.Test.YtpifopfpgfbdgaaTb
set_option linter.unusedSimpArgs false
set_option linter.unusedVariables false
set_option maxRecDepth 100000
namespace Go.Mach.Ytl
open Go.Mach
theorem san (o : Nat → AObj) : evalCall tab 150 4 [] ⟨o, 0, 0, [], 0⟩ = some (.bool true, ⟨o, 0, 0, [], 0⟩) := by kernel_rfl
end Go.Mach.Ytl
