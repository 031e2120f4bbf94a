/-
  Pruned copy of the text Cs. By an AI agent.
-/
import Derived.Test.YtlbihaiejbpjoaaGreatMr
import Derived.Test.YtlbihaiejbpjoaaGreatZ10Tb
import Derived.KernelRfl
set_option linter.unusedSimpArgs false
set_option linter.unusedVariables false
namespace Go.Mach.Ytl
open Go.Mach
end Go.Mach.Ytl
