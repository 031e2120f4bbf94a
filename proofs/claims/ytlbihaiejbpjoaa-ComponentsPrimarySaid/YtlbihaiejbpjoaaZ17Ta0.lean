/-
  Pruned copy of the text Ta0. By an AI agent.
-/
import Derived.Test.YtlbihaiejbpjoaaTz
set_option maxRecDepth 20000
set_option autoImplicit false
namespace Go.Mach.Ytl
end Go.Mach.Ytl
