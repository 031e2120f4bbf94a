/-
  Pruned copy of the text Sh. By an AI agent.
-/
import Derived.Test.YtlbihaiejbpjoaaGreatZ10Va
import Derived.Test.YtlbihaiejbpjoaaGreatZ10Vb
import Derived.Test.YtlbihaiejbpjoaaGreatZ10Sf
set_option linter.unusedSimpArgs false
set_option linter.unusedVariables false
set_option maxRecDepth 100000
namespace Go.Mach.Ytl
open Go.Mach
def grpL (P : List Mo) (s : Int) : List Mo := P.filter fun a => decide (((supN a : Nat) : Int) = s)
theorem grp_mem {P : List Mo} {s : Int} {a : Mo} : a ∈ grpL P s ↔ a ∈ P ∧ ((supN a : Nat) : Int) = s := by simp [grpL]
section
variable {s : List Jtm} {k : KF} {Q : AV → Heap → Prop}
attribute [local simp] guardI_u
theorem mp_cell {v : AV} {l : List PV} (hv : ML tP v l) (H : Heap) {i : Nat} (hi : i < l.length) : iaddrA none 2 v (.int .i64 i) = some (.pv (tP.row l) (i * 2)) ∧ part false 1 (tP.row l) (i * 2) = some (.int .u8 l[i].s) ∧ part false 1 (tP.row l) (i * 2 + 1) = some l[i].v := by
  rcases hv with ⟨rfl, rfl⟩ | ⟨ex, rfl⟩
  · exact nomatch hi
  · have h1 : part true 2 (tP.row l) (i * 2) = some (.agg [.int .u8 l[i].s, l[i].v]) := tP.row_part l i hi
    simp only [part, if_true] at h1
    split at h1
    · simp only [Option.some.injEq, AV.agg.injEq] at h1
      refine ⟨?_, ?_, ?_⟩
      · simp only [iaddrA]
        rw [if_pos ⟨by omega, by omega, row_ne tP hi⟩]
        simp
      · rw [part_false]
        have h2 : (((tP.row l).drop (i * 2)).take 2)[0]? = some (.int .u8 l[i].s) := by rw [h1]; rfl
        rw [List.getElem?_take, if_pos (by omega), List.getElem?_drop] at h2
        exact h2
      · rw [part_false]
        have h2 : (((tP.row l).drop (i * 2)).take 2)[1]? = some l[i].v := by rw [h1]; rfl
        rw [List.getElem?_take, if_pos (by omega), List.getElem?_drop] at h2
        exact h2
    · cases h1
end
end Go.Mach.Ytl
