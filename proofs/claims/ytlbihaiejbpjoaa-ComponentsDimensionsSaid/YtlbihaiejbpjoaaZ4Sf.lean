/-
  Pruned copy of the text Sf. By an AI agent.
-/
import Derived.Test.YtlbihaiejbpjoaaZ4Se
set_option linter.unusedSimpArgs false
set_option linter.unusedVariables false
set_option maxRecDepth 100000
namespace Go.Mach.Ytl
open Go.Mach
section
variable {s : List Jtm} {k : KF} {Q : AV → Heap → Prop}
attribute [local simp] guardI_u
theorem bit_all : ((List.range 256).all fun s => (List.range 8).all fun j => (shrK .i64 (s : Nat) (j : Nat)).tmod 2 == ((s / 2 ^ j % 2 : Nat) : Int)) = true := by decide +kernel
theorem bit_eq {s j : Nat} (hs : s < 256) (hj : j < 8) : (shrK .i64 (s : Nat) (j : Nat)).tmod 2 = ((s / 2 ^ j % 2 : Nat) : Int) := by
  have := (List.all_eq_true.1 ((List.all_eq_true.1 bit_all) s (by simpa using hs))) j (by simpa using hj)
  simpa using this
theorem mb_at {v : AV} {l : List Int} (hv : ML tB v l) (H : Heap) {i : Nat} (hi : i < l.length) : ∃ p, iaddrA none 1 v (.int .i64 i) = some p ∧ loadA H false 1 p = some (.int .u8 l[i]) := (hv.rd H).2 i hi
end
end Go.Mach.Ytl
