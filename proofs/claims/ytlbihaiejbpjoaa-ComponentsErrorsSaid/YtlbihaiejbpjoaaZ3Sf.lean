/-
  Pruned copy of the text Sf. By an AI agent.
-/
import Derived.Test.YtlbihaiejbpjoaaZ3Se
set_option linter.unusedSimpArgs false
set_option linter.unusedVariables false
set_option maxRecDepth 100000
namespace Go.Mach.Ytl
open Go.Mach
section
variable {s : List Jtm} {k : KF} {Q : AV → Heap → Prop}
attribute [local simp] guardI_u
end
end Go.Mach.Ytl
