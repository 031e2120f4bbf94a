/-
  The order of monomials. By an AI agent.
-/
import Derived.Test.YtlbihaiejbpjoaaCe
set_option linter.unusedSimpArgs false
set_option linter.unusedVariables false
set_option maxRecDepth 100000
namespace Go.Mach.Ytl
open Go.Mach
attribute [local simp] part_false part_true stO_some wrap_int wrap_byte binA ibin

def lex : List Int → List Int → Int
  | x :: xs, y :: ys => if x < y then -1 else if y < x then 1 else lex xs ys
  | _, _ => 0
def Mo.list (a : Mo) : List Int := [a.x0, a.x1, a.x2, a.x3, a.x4, a.x5, a.x6, a.x7]
theorem cmp_lex {a b : Mo} : Mo.cmp a b = lex a.list b.list := by
  simp only [Mo.cmp, Mo.list, lex]
theorem list_inj {a b : Mo} : a.list = b.list ↔ a = b := by
  obtain ⟨a0, a1, a2, a3, a4, a5, a6, a7⟩ := a
  obtain ⟨b0, b1, b2, b3, b4, b5, b6, b7⟩ := b
  simp [Mo.list]
theorem lex_range : ∀ (a b : List Int), lex a b = -1 ∨ lex a b = 0 ∨ lex a b = 1 := by
  intro a
  induction a with
  | nil => intro b; simp [lex]
  | cons x a ih =>
    intro b
    cases b with
    | nil => simp [lex]
    | cons y b =>
      simp only [lex]
      split
      · simp
      · split
        · simp
        · exact ih b
theorem lex_neg : ∀ (a b : List Int), lex b a = - lex a b := by
  intro a
  induction a with
  | nil => intro b; cases b <;> simp [lex]
  | cons x a ih =>
    intro b
    cases b with
    | nil => simp [lex]
    | cons y b =>
      simp only [lex]
      by_cases h : x < y
      · rw [if_neg (by omega), if_pos h, if_pos h]; rfl
      · by_cases h2 : y < x
        · rw [if_pos h2, if_neg h, if_pos h2]
        · rw [if_neg h2, if_neg h, if_neg h, if_neg h2]; exact ih b
theorem lex_eq : ∀ (a b : List Int), a.length = b.length → (lex a b = 0 ↔ a = b) := by
  intro a
  induction a with
  | nil => intro b h; cases b <;> simp_all [lex]
  | cons x a ih =>
    intro b h
    cases b with
    | nil => simp at h
    | cons y b =>
      simp only [lex, List.cons.injEq]
      have := ih b (by simpa using h)
      split
      · constructor <;> intro h <;> omega
      · split
        · constructor <;> intro h <;> omega
        · rw [this]
          constructor
          · intro h; exact ⟨by omega, h⟩
          · intro h; exact h.2
theorem lex_trans : ∀ (a b c : List Int), a.length = b.length → b.length = c.length → lex a b < 0 → lex b c ≤ 0 → lex a c = -1 := by
  intro a
  induction a with
  | nil => intro b c _ _ h; simp [lex] at h
  | cons x a ih =>
    intro b c h1 h2 h h'
    cases b with
    | nil => simp at h1
    | cons y b =>
      cases c with
      | nil => simp at h2
      | cons z c =>
        simp only [lex] at h h' ⊢
        have := ih b c (by simpa using h1) (by simpa using h2)
        by_cases a1 : x < y
        · by_cases a2 : y < z
          · rw [if_pos (by omega)]
          · by_cases a3 : z < y
            · rw [if_neg a2, if_pos a3] at h'; omega
            · rw [if_pos (by omega)]
        · by_cases a4 : y < x
          · rw [if_neg a1, if_pos a4] at h; omega
          · rw [if_neg a1, if_neg a4] at h
            by_cases a2 : y < z
            · rw [if_pos (by omega)]
            · by_cases a3 : z < y
              · rw [if_neg a2, if_pos a3] at h'; omega
              · rw [if_neg a2, if_neg a3] at h'
                rw [if_neg (by omega), if_neg (by omega)]
                exact this h h'

theorem cmp_range {a b : Mo} : ¬ Mo.cmp a b < -1 ∧ ¬ 1 < Mo.cmp a b := by
  rw [cmp_lex]; rcases lex_range a.list b.list with h | h | h <;> rw [h] <;> omega
theorem cmp_neg {a b : Mo} : Mo.cmp b a = - Mo.cmp a b := by rw [cmp_lex, cmp_lex, lex_neg]
theorem cmp_eq {a b : Mo} : Mo.cmp a b = 0 ↔ a = b := by rw [cmp_lex, lex_eq a.list b.list (by simp [Mo.list]), list_inj]
theorem cmp_zero {a : Mo} (h : a.valid) : ¬ Mo.cmp a Mo.zero < 0 := by
  obtain ⟨a0, a1, a2, a3, a4, a5, a6, a7⟩ := h
  simp only [Mo.cmp, Mo.zero]
  (repeat' split) <;> omega
theorem cmp_add {a b c : Mo} (ha : a.valid) (hb : b.valid) (hc : c.valid) : Mo.cmp (Mo.map2 iadd a c) (Mo.map2 iadd b c) = Mo.cmp a b := by
  obtain ⟨a0, a1, a2, a3, a4, a5, a6, a7⟩ := ha
  obtain ⟨b0, b1, b2, b3, b4, b5, b6, b7⟩ := hb
  obtain ⟨c0, c1, c2, c3, c4, c5, c6, c7⟩ := hc
  simp only [Mo.cmp, Mo.map2]
  simp only [iadd_eq a0 c0, iadd_eq a1 c1, iadd_eq a2 c2, iadd_eq a3 c3, iadd_eq a4 c4, iadd_eq a5 c5, iadd_eq a6 c6, iadd_eq a7 c7, iadd_eq b0 c0, iadd_eq b1 c1, iadd_eq b2 c2, iadd_eq b3 c3, iadd_eq b4 c4, iadd_eq b5 c5, iadd_eq b6 c6, iadd_eq b7 c7]
  have key : ∀ p q r : Int, (p + r < q + r) = (p < q) := fun p q r => by apply propext; constructor <;> intro h <;> omega
  simp only [key]

set_option maxHeartbeats 2000000 in
theorem law10 {x y z : Mo} (hx : x.valid) (hy : y.valid) (hz : z.valid) : evalCall tab 211 10 [raw x, raw y, raw z] Heap.empty = some (.bool true, Heap.empty) := by
  have hs : evalCall tab 210 27 [] (((Heap.empty.begin.new (.cells x.rcells none)).new (.cells y.rcells none)).new (.cells z.rcells none)) = some (.bool true, _) := san3 _
  rw [call_enter tab_10 (by simp [AF10]) (.inr (by simp))]
  have e1 := @cmp_range x y
  have e2 := @cmp_neg x y
  have e3 := @cmp_eq x y
  have e4 := @cmp_eq x Mo.zero
  have f3 : (Mo.cmp x y == 0) = decide (x = y) := by rw [Bool.eq_iff_iff]; simp [e3]
  have f4 : (Mo.cmp x Mo.zero == 0) = decide (x = Mo.zero) := by rw [Bool.eq_iff_iff]; simp [e4]
  have e5 := cmp_zero hx
  have e6 := cmp_add hx hy hz
  have w0 : IntKind.i64.wrap (0 - Mo.cmp x y) = - Mo.cmp x y := by rw [wrap_int (by omega) (by omega)]; omega
  have e7 : Mo.cmp x y < 0 → Mo.cmp y z ≤ 0 → Mo.cmp x z = -1 := by rw [cmp_lex, cmp_lex, cmp_lex]; exact lex_trans _ _ _ (by simp [Mo.list]) (by simp [Mo.list])
  have w1 : IntKind.i64.wrap (- Mo.cmp x y) = - Mo.cmp x y := wrap_int (by omega) (by omega)
  by_cases h1 : Mo.cmp x y < 0
  · by_cases h2 : Mo.cmp y z ≤ 0
    · have h3 := e7 h1 h2
      by_cases h5 : (Mo.map2 iadd x z).valid <;> by_cases h6 : (Mo.map2 iadd y z).valid <;>
        simp -implicitDefEqProofs [AF10, hs, call_28 hx, call_28 hy, call_28 hz, call_29, call_35, unA, e1, e2, f3, f4, e5, e6, w0, w1, h1, h2, h3, h5, h6, fillA]
    · by_cases h5 : (Mo.map2 iadd x z).valid <;> by_cases h6 : (Mo.map2 iadd y z).valid <;>
        simp -implicitDefEqProofs [AF10, hs, call_28 hx, call_28 hy, call_28 hz, call_29, call_35, unA, e1, e2, f3, f4, e5, e6, w0, w1, h1, h2, h5, h6, fillA]
  · by_cases h5 : (Mo.map2 iadd x z).valid <;> by_cases h6 : (Mo.map2 iadd y z).valid <;>
      simp -implicitDefEqProofs [AF10, hs, call_28 hx, call_28 hy, call_28 hz, call_29, call_35, unA, e1, e2, f3, f4, e5, e6, w0, w1, h1, h5, h6, fillA]
end Go.Mach.Ytl
