/-
  Pruned copy of the text Fs. By an AI agent.
-/
import Derived.Test.YtlbihaiejbpjoaaRows
import Derived.WalkKit
import Derived.ProofKit
import Derived.OpenShut
import Derived.ShutString
import Derived.ChangeOld
import Derived.Below
import Derived.Test.YtlbihaiejbpjoaaZ3Cf
import Derived.Test.YtlbihaiejbpjoaaHa
set_option linter.unusedSimpArgs false
namespace Go.Proofs.Ytlbihaiejbpjoaa
open Go.ChangeShapes Go.WideShapes Go.ChangeAt Go.RowKit Go.Mach Go.Mach.Ytl
set_option linter.unusedVariables false
set_option maxRecDepth 100000
end Go.Proofs.Ytlbihaiejbpjoaa
