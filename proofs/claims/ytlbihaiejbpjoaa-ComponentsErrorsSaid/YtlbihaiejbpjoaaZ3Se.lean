/-
  Pruned copy of the text Se. By an AI agent.
-/
import Derived.Test.YtlbihaiejbpjoaaZ3Sd
set_option linter.unusedSimpArgs false
set_option linter.unusedVariables false
set_option maxRecDepth 100000
namespace Go.Mach.Ytl
open Go.Mach
end Go.Mach.Ytl
