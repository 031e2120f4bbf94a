/-
  Pruned copy of the text Cd. By an AI agent.
-/
import Derived.Test.YtlbihaiejbpjoaaZ14Cc
import Derived.Test.YtlbihaiejbpjoaaZ14Cs
set_option linter.unusedSimpArgs false
set_option linter.unusedVariables false
set_option maxRecDepth 100000
namespace Go.Mach.Ytl
open Go.Mach
attribute [local simp] part_false part_true stO_some wrap_int wrap_byte binA ibin
theorem min_le {a b : Mo} : (Mo.map2 imin a b = a) = Mo.le a b := by
  obtain ⟨a0, a1, a2, a3, a4, a5, a6, a7⟩ := a
  obtain ⟨b0, b1, b2, b3, b4, b5, b6, b7⟩ := b
  have key : ∀ p q : Int, (imin p q = p) = (p ≤ q) := fun p q => by
    apply propext; unfold imin; split <;> omega
  simp only [Mo.map2, Mo.le, Mo.mk.injEq, key]
theorem sup_eq {a : Mo} : a.sup' = a.sup := by
  obtain ⟨a0, a1, a2, a3, a4, a5, a6, a7⟩ := a
  simp only [Mo.sup, Mo.sup', stO', stA']
  by_cases h0 : 0 < a0 <;> by_cases h1 : 0 < a1 <;> by_cases h2 : 0 < a2 <;> by_cases h3 : 0 < a3 <;> by_cases h4 : 0 < a4 <;> by_cases h5 : 0 < a5 <;> by_cases h6 : 0 < a6 <;> by_cases h7 : 0 < a7 <;>
    simp only [h0, h1, h2, h3, h4, h5, h6, h7, if_true, if_false] <;> rfl
def Mo.rcells (x : Mo) : List AV := [.int .u16 x.x0, .int .u16 x.x1, .int .u16 x.x2, .int .u16 x.x3, .int .u16 x.x4, .int .u16 x.x5, .int .u16 x.x6, .int .u16 x.x7]
theorem flat_raw {x : Mo} : (raw x).flat = some x.rcells := rfl
theorem len_rcells {x : Mo} : x.rcells.length = 8 := rfl
theorem frz_raw6 {b : Nat} {H : Heap} {x : Mo} : frz b 6 H (raw x) = some (raw x, H) := by simp [raw]
theorem frz_raw5 {b : Nat} {H : Heap} {x : Mo} : frz b 5 H (raw x) = some (raw x, H) := by simp [raw]
theorem take_rcells {x : Mo} : x.rcells.take 8 = x.rcells := rfl
theorem agg_raw {x : Mo} : AV.agg x.rcells = raw x := rfl
theorem empty_next : Heap.empty.next = 0 := rfl
theorem empty_base : Heap.empty.base = 0 := rfl
attribute [simp] flat_raw len_rcells frz_raw6 frz_raw5 take_rcells agg_raw empty_next empty_base
end Go.Mach.Ytl
