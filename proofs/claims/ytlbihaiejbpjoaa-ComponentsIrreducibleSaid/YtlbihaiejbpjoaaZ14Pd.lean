/-
  Pruned copy of the text Pd. By an AI agent.
-/
import Derived.Test.YtlbihaiejbpjoaaZ14Pa
set_option linter.unusedSimpArgs false
set_option linter.unusedVariables false
set_option maxRecDepth 100000
namespace Go.Mach.Ytl
open Go.Mach
section
variable {s : List Jtm} {k : KF} {Q : AV → Heap → Prop}
theorem loadI {m : Mo} {i : Nat} (h : i < 8) : part false 1 m.cells i = some (.int .i64 (m.get i)) := by
  rw [part_false]; exact get_cells h
theorem call_45' {a : Mo} {H : Heap} : callI tab 45 [mono a] H = some (.bool (decide a.valid), H) := callI_of (call_45 (n := 0))
theorem valid_get {m : Mo} : m.valid ↔ ∀ q, q < 8 → 0 ≤ m.get q ∧ m.get q ≤ 65535 := by
  unfold Mo.valid
  constructor
  · rintro ⟨h0, h1, h2, h3, h4, h5, h6, h7⟩ q hq
    match q, hq with
    | 0, _ => exact h0
    | 1, _ => exact h1
    | 2, _ => exact h2
    | 3, _ => exact h3
    | 4, _ => exact h4
    | 5, _ => exact h5
    | 6, _ => exact h6
    | 7, _ => exact h7
  · intro h
    exact ⟨h 0 (by omega), h 1 (by omega), h 2 (by omega), h 3 (by omega), h 4 (by omega), h 5 (by omega), h 6 (by omega), h 7 (by omega)⟩
end
end Go.Mach.Ytl
