/-
  Pruned copy of the text Va. By an AI agent.
-/
import Derived.Test.YtlbihaiejbpjoaaGreatZ10Se
set_option linter.unusedSimpArgs false
set_option linter.unusedVariables false
set_option maxRecDepth 100000
namespace Go.Mach.Ytl
open Go.Mach
def Small (t : Mo) : Prop := ∀ q, 0 ≤ t.get q ∧ t.get q ≤ 4
theorem Small.nn {t : Mo} (h : Small t) : t.nn := nn_get.2 fun q _ => (h q).1
end Go.Mach.Ytl
