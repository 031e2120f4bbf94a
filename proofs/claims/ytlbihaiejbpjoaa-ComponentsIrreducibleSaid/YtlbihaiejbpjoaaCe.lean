/-
  Plain laws of monomials; more laws in the machine. By an AI agent.
-/
import Derived.Test.YtlbihaiejbpjoaaCd
set_option linter.unusedSimpArgs false
set_option linter.unusedVariables false
set_option maxRecDepth 100000
namespace Go.Mach.Ytl
open Go.Mach
attribute [local simp] part_false part_true stO_some wrap_int wrap_byte binA ibin

/-! ### Componentwise -/
theorem iadd_eq {p q : Int} (hp : 0 ≤ p ∧ p ≤ 65535) (hq : 0 ≤ q ∧ q ≤ 65535) : iadd p q = p + q := wrap_int (by omega) (by omega)
theorem isub_eq {p q : Int} (hp : 0 ≤ p ∧ p ≤ 65535) (hq : 0 ≤ q ∧ q ≤ 65535) : isub p q = p - q := wrap_int (by omega) (by omega)
theorem imax_ge {p q : Int} : p ≤ imax p q ∧ q ≤ imax p q := by unfold imax; split <;> omega
theorem imin_le {p q : Int} : imin p q ≤ p ∧ imin p q ≤ q := by unfold imin; split <;> omega
theorem imax_comm {p q : Int} : imax p q = imax q p := by unfold imax; (repeat' split) <;> omega
theorem imin_comm {p q : Int} : imin p q = imin q p := by unfold imin; (repeat' split) <;> omega

theorem max_comm {a b : Mo} : Mo.map2 imax a b = Mo.map2 imax b a := by simp only [Mo.map2, Mo.mk.injEq]; exact ⟨imax_comm, imax_comm, imax_comm, imax_comm, imax_comm, imax_comm, imax_comm, imax_comm⟩
theorem min_comm {a b : Mo} : Mo.map2 imin a b = Mo.map2 imin b a := by simp only [Mo.map2, Mo.mk.injEq]; exact ⟨imin_comm, imin_comm, imin_comm, imin_comm, imin_comm, imin_comm, imin_comm, imin_comm⟩
theorem le_max {a b : Mo} : Mo.le a (Mo.map2 imax a b) := ⟨imax_ge.1, imax_ge.1, imax_ge.1, imax_ge.1, imax_ge.1, imax_ge.1, imax_ge.1, imax_ge.1⟩
theorem le_max' {a b : Mo} : Mo.le b (Mo.map2 imax a b) := ⟨imax_ge.2, imax_ge.2, imax_ge.2, imax_ge.2, imax_ge.2, imax_ge.2, imax_ge.2, imax_ge.2⟩
theorem min_le1 {a b : Mo} : Mo.le (Mo.map2 imin a b) a := ⟨imin_le.1, imin_le.1, imin_le.1, imin_le.1, imin_le.1, imin_le.1, imin_le.1, imin_le.1⟩
theorem min_le2 {a b : Mo} : Mo.le (Mo.map2 imin a b) b := ⟨imin_le.2, imin_le.2, imin_le.2, imin_le.2, imin_le.2, imin_le.2, imin_le.2, imin_le.2⟩
theorem le_refl {a : Mo} : Mo.le a a := by unfold Mo.le; omega
theorem le_trans {a b c : Mo} (h : Mo.le a b) (k : Mo.le b c) : Mo.le a c := by unfold Mo.le at *; omega
theorem le_antisymm {a b : Mo} (h : Mo.le a b) (k : Mo.le b a) : a = b := by
  obtain ⟨a0, a1, a2, a3, a4, a5, a6, a7⟩ := a
  obtain ⟨b0, b1, b2, b3, b4, b5, b6, b7⟩ := b
  simp only [Mo.le] at h k
  simp only [Mo.mk.injEq]
  omega
theorem zero_le {a : Mo} (h : a.valid) : Mo.le Mo.zero a := by unfold Mo.le Mo.zero; unfold Mo.valid at h; simp only; omega
theorem max_le_iff {a b c : Mo} : Mo.le (Mo.map2 imax a b) c ↔ Mo.le a c ∧ Mo.le b c := by
  have key : ∀ p q r : Int, imax p q ≤ r ↔ p ≤ r ∧ q ≤ r := fun p q r => by unfold imax; split <;> omega
  simp only [Mo.le, Mo.map2, key]
  constructor <;> (intro h; omega)
theorem le_min_iff {a b c : Mo} : Mo.le c (Mo.map2 imin a b) ↔ Mo.le c a ∧ Mo.le c b := by
  have key : ∀ p q r : Int, r ≤ imin p q ↔ r ≤ p ∧ r ≤ q := fun p q r => by unfold imin; split <;> omega
  simp only [Mo.le, Mo.map2, key]
  constructor <;> (intro h; omega)
theorem sub_add {c a : Mo} (hc : c.valid) (ha : a.valid) : Mo.map2 iadd (Mo.map2 isub c a) a = c := by
  have key : ∀ p q : Int, (0 ≤ p ∧ p ≤ 65535) → (0 ≤ q ∧ q ≤ 65535) → iadd (isub p q) q = p := fun p q hp hq => by
    rw [isub_eq hp hq]; unfold iadd; rw [wrap_int (by omega) (by omega)]; omega
  obtain ⟨c0, c1, c2, c3, c4, c5, c6, c7⟩ := hc
  obtain ⟨a0, a1, a2, a3, a4, a5, a6, a7⟩ := ha
  obtain ⟨x0, x1, x2, x3, x4, x5, x6, x7⟩ := c
  simp only [Mo.map2, Mo.mk.injEq]
  exact ⟨key _ _ c0 a0, key _ _ c1 a1, key _ _ c2 a2, key _ _ c3 a3, key _ _ c4 a4, key _ _ c5 a5, key _ _ c6 a6, key _ _ c7 a7⟩
theorem add_sub {c a : Mo} (hc : c.valid) (ha : a.valid) : Mo.map2 isub (Mo.map2 iadd c a) a = c := by
  have key : ∀ p q : Int, (0 ≤ p ∧ p ≤ 65535) → (0 ≤ q ∧ q ≤ 65535) → isub (iadd p q) q = p := fun p q hp hq => by
    rw [iadd_eq hp hq]; unfold isub; rw [wrap_int (by omega) (by omega)]; omega
  obtain ⟨c0, c1, c2, c3, c4, c5, c6, c7⟩ := hc
  obtain ⟨a0, a1, a2, a3, a4, a5, a6, a7⟩ := ha
  obtain ⟨x0, x1, x2, x3, x4, x5, x6, x7⟩ := c
  simp only [Mo.map2, Mo.mk.injEq]
  exact ⟨key _ _ c0 a0, key _ _ c1 a1, key _ _ c2 a2, key _ _ c3 a3, key _ _ c4 a4, key _ _ c5 a5, key _ _ c6 a6, key _ _ c7 a7⟩
theorem sub_valid {c a : Mo} (hc : c.valid) (ha : a.valid) (h : Mo.le a c) : (Mo.map2 isub c a).valid := by
  obtain ⟨c0, c1, c2, c3, c4, c5, c6, c7⟩ := hc
  obtain ⟨a0, a1, a2, a3, a4, a5, a6, a7⟩ := ha
  obtain ⟨h0, h1, h2, h3, h4, h5, h6, h7⟩ := h
  simp only [Mo.valid, Mo.map2]
  rw [isub_eq c0 a0, isub_eq c1 a1, isub_eq c2 a2, isub_eq c3 a3, isub_eq c4 a4, isub_eq c5 a5, isub_eq c6 a6, isub_eq c7 a7]
  omega
theorem add_comm {a b : Mo} : Mo.map2 iadd a b = Mo.map2 iadd b a := by
  have key : ∀ p q : Int, iadd p q = iadd q p := fun p q => by unfold iadd; rw [Int.add_comm]
  simp only [Mo.map2, Mo.mk.injEq]
  exact ⟨key _ _, key _ _, key _ _, key _ _, key _ _, key _ _, key _ _, key _ _⟩
theorem max_add_min {a b : Mo} : Mo.map2 iadd (Mo.map2 imax a b) (Mo.map2 imin a b) = Mo.map2 iadd a b := by
  have key : ∀ p q : Int, iadd (imax p q) (imin p q) = iadd p q := fun p q => by
    unfold iadd imax imin
    congr 1
    (repeat' split) <;> omega
  simp only [Mo.map2, Mo.mk.injEq]
  exact ⟨key _ _, key _ _, key _ _, key _ _, key _ _, key _ _, key _ _, key _ _⟩
theorem max_eq {a b : Mo} (h : Mo.le b a) : Mo.map2 imax a b = a := by
  have key : ∀ p q : Int, q ≤ p → imax p q = p := fun p q h => by unfold imax; split <;> omega
  obtain ⟨h0, h1, h2, h3, h4, h5, h6, h7⟩ := h
  obtain ⟨x0, x1, x2, x3, x4, x5, x6, x7⟩ := a
  simp only [Mo.map2, Mo.mk.injEq]
  exact ⟨key _ _ h0, key _ _ h1, key _ _ h2, key _ _ h3, key _ _ h4, key _ _ h5, key _ _ h6, key _ _ h7⟩
theorem min_eq {a b : Mo} (h : Mo.le b a) : Mo.map2 imin a b = b := by
  have key : ∀ p q : Int, q ≤ p → imin p q = q := fun p q h => by unfold imin; split <;> omega
  obtain ⟨h0, h1, h2, h3, h4, h5, h6, h7⟩ := h
  obtain ⟨x0, x1, x2, x3, x4, x5, x6, x7⟩ := b
  simp only [Mo.map2, Mo.mk.injEq]
  exact ⟨key _ _ h0, key _ _ h1, key _ _ h2, key _ _ h3, key _ _ h4, key _ _ h5, key _ _ h6, key _ _ h7⟩

/-! ### The laws of division and of the lattice -/
set_option maxHeartbeats 1000000 in
theorem law8 {x y z : Mo} (hx : x.valid) (hy : y.valid) (hz : z.valid) : evalCall tab 211 8 [raw x, raw y, raw z] Heap.empty = some (.bool true, Heap.empty) := by
  have hs : evalCall tab 210 27 [] (((Heap.empty.begin.new (.cells x.rcells none)).new (.cells y.rcells none)).new (.cells z.rcells none)) = some (.bool true, _) := san3 _
  rw [call_enter tab_8 (by simp [AF8]) (.inr (by simp))]
  have e1 := @le_max x y
  have e2 := @le_refl x
  have e3 := zero_le hz
  have e5 := sub_add hz hx
  by_cases h1 : Mo.le (Mo.map2 imax x y) x
  · have e4 : x = Mo.map2 imax x y := le_antisymm e1 h1
    by_cases h3 : Mo.le x z
    · have e6 := sub_valid hz hx h3
      have h2 : Mo.le (Mo.map2 imax x y) z := le_trans h1 h3
      simp -implicitDefEqProofs [AF8, hs, call_28 hx, call_28 hy, call_28 hz, call_29, call_31, call_33, call_38, call_47, min_le, unA, e1, e2, e3, h1, ← e4, e5, e6, h3, hz, fillA]
    · have h2 : ¬ Mo.le (Mo.map2 imax x y) z := fun h => h3 (le_trans e1 h)
      simp -implicitDefEqProofs [AF8, hs, call_28 hx, call_28 hy, call_28 hz, call_29, call_31, call_33, call_38, call_47, min_le, unA, e1, e2, e3, h1, ← e4, e5, h3, hz, fillA]
  · have e4 : ¬ x = Mo.map2 imax x y := fun h => h1 (by rw [← h]; exact e2)
    by_cases h3 : Mo.le x z
    · have e6 := sub_valid hz hx h3
      by_cases h2 : Mo.le (Mo.map2 imax x y) z
      · simp -implicitDefEqProofs [AF8, hs, call_28 hx, call_28 hy, call_28 hz, call_29, call_31, call_33, call_38, call_47, min_le, unA, e1, e2, e3, h1, e4, e5, e6, h2, h3, hz, fillA]
      · simp -implicitDefEqProofs [AF8, hs, call_28 hx, call_28 hy, call_28 hz, call_29, call_31, call_33, call_38, call_47, min_le, unA, e1, e2, e3, h1, e4, e5, e6, h2, h3, hz, fillA]
    · have h2 : ¬ Mo.le (Mo.map2 imax x y) z := fun h => h3 (le_trans e1 h)
      simp -implicitDefEqProofs [AF8, hs, call_28 hx, call_28 hy, call_28 hz, call_29, call_31, call_33, call_38, call_47, min_le, unA, e1, e2, e3, h1, e4, e5, h2, h3, hz, fillA]
set_option maxHeartbeats 1000000 in
theorem law9 {x y z : Mo} (hx : x.valid) (hy : y.valid) (hz : z.valid) : evalCall tab 211 9 [raw x, raw y, raw z] Heap.empty = some (.bool true, Heap.empty) := by
  have hs : evalCall tab 210 27 [] (((Heap.empty.begin.new (.cells x.rcells none)).new (.cells y.rcells none)).new (.cells z.rcells none)) = some (.bool true, _) := san3 _
  rw [call_enter tab_9 (by simp [AF9]) (.inr (by simp))]
  have e1 := @le_max x y
  have e2 := @le_max' x y
  have e3 := @min_le1 x y
  have e4 := @min_le2 x y
  have e5 := @max_comm y x
  have e6 := @min_comm y x
  have e7 := @max_add_min x y
  have e8 := max_eq (le_trans e3 e1)
  have e9 := min_eq (le_trans e3 e1)
  have e10 := @max_le_iff x y z
  have e11 := @le_min_iff x y z
  by_cases h5 : (Mo.map2 iadd x y).valid <;> by_cases h1 : Mo.le x z <;> by_cases h2 : Mo.le y z <;> by_cases h3 : Mo.le z x <;> by_cases h4 : Mo.le z y <;>
    simp -implicitDefEqProofs [AF9, hs, call_28 hx, call_28 hy, call_28 hz, call_29, call_33, call_37, call_39, min_le, unA, e1, e2, e3, e4, e5, e6, e7, e8, e9, e10, e11, h1, h2, h3, h4, h5]
end Go.Mach.Ytl
