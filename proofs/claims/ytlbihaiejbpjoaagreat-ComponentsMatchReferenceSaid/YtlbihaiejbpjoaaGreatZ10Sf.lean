/-
  Pruned copy of the text Sf. By an AI agent.
-/
import Derived.Test.YtlbihaiejbpjoaaGreatZ10Se
set_option linter.unusedSimpArgs false
set_option linter.unusedVariables false
set_option maxRecDepth 100000
namespace Go.Mach.Ytl
open Go.Mach
section
variable {s : List Jtm} {k : KF} {Q : AV → Heap → Prop}
attribute [local simp] guardI_u
theorem mb_at {v : AV} {l : List Int} (hv : ML tB v l) (H : Heap) {i : Nat} (hi : i < l.length) : ∃ p, iaddrA none 1 v (.int .i64 i) = some p ∧ loadA H false 1 p = some (.int .u8 l[i]) := (hv.rd H).2 i hi
end
end Go.Mach.Ytl
