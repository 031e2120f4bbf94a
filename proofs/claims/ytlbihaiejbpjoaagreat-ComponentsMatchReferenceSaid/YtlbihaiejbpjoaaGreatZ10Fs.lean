/-
  Pruned copy of the text Fs. By an AI agent.
-/
import Derived.Test.YtlbihaiejbpjoaaGreatRows
import Derived.WalkKit
import Derived.ProofKit
import Derived.OpenShut
import Derived.ShutString
import Derived.ChangeOld
import Derived.Below
import Derived.Test.YtlbihaiejbpjoaaGreatZ10Cf
import Derived.Test.YtlbihaiejbpjoaaGreatHa
set_option linter.unusedSimpArgs false
namespace Go.Proofs.YtlbihaiejbpjoaaGreat
open Go.ChangeShapes Go.WideShapes Go.ChangeAt Go.RowKit Go.Mach Go.Mach.Ytl
set_option linter.unusedVariables false
set_option maxRecDepth 100000
end Go.Proofs.YtlbihaiejbpjoaaGreat
