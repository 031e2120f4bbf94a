/-
  Pruned copy of the text Cs. By an AI agent.
-/
import Derived.Test.YtlbihaiejbpjoaaMr
import Derived.Test.YtlbihaiejbpjoaaZ3Tb
import Derived.KernelRfl
set_option linter.unusedSimpArgs false
set_option linter.unusedVariables false
namespace Go.Mach.Ytl
open Go.Mach
end Go.Mach.Ytl
