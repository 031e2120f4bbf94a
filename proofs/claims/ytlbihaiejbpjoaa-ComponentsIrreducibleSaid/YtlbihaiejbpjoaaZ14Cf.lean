/-
  Pruned copy of the text Cf. By an AI agent.
-/
import Derived.Test.YtlbihaiejbpjoaaZ14Ce
set_option linter.unusedSimpArgs false
set_option linter.unusedVariables false
set_option maxRecDepth 100000
namespace Go.Mach.Ytl
open Go.Mach
attribute [local simp] part_false part_true stO_some wrap_int wrap_byte binA ibin
def lex : List Int → List Int → Int
  | x :: xs, y :: ys => if x < y then -1 else if y < x then 1 else lex xs ys
  | _, _ => 0
def Mo.list (a : Mo) : List Int := [a.x0, a.x1, a.x2, a.x3, a.x4, a.x5, a.x6, a.x7]
theorem cmp_lex {a b : Mo} : Mo.cmp a b = lex a.list b.list := by
  simp only [Mo.cmp, Mo.list, lex]
theorem list_inj {a b : Mo} : a.list = b.list ↔ a = b := by
  obtain ⟨a0, a1, a2, a3, a4, a5, a6, a7⟩ := a
  obtain ⟨b0, b1, b2, b3, b4, b5, b6, b7⟩ := b
  simp [Mo.list]
theorem lex_range : ∀ (a b : List Int), lex a b = -1 ∨ lex a b = 0 ∨ lex a b = 1 := by
  intro a
  induction a with
  | nil => intro b; simp [lex]
  | cons x a ih =>
    intro b
    cases b with
    | nil => simp [lex]
    | cons y b =>
      simp only [lex]
      split
      · simp
      · split
        · simp
        · exact ih b
theorem lex_neg : ∀ (a b : List Int), lex b a = - lex a b := by
  intro a
  induction a with
  | nil => intro b; cases b <;> simp [lex]
  | cons x a ih =>
    intro b
    cases b with
    | nil => simp [lex]
    | cons y b =>
      simp only [lex]
      by_cases h : x < y
      · rw [if_neg (by omega), if_pos h, if_pos h]; rfl
      · by_cases h2 : y < x
        · rw [if_pos h2, if_neg h, if_pos h2]
        · rw [if_neg h2, if_neg h, if_neg h, if_neg h2]; exact ih b
theorem lex_eq : ∀ (a b : List Int), a.length = b.length → (lex a b = 0 ↔ a = b) := by
  intro a
  induction a with
  | nil => intro b h; cases b <;> simp_all [lex]
  | cons x a ih =>
    intro b h
    cases b with
    | nil => simp at h
    | cons y b =>
      simp only [lex, List.cons.injEq]
      have := ih b (by simpa using h)
      split
      · constructor <;> intro h <;> omega
      · split
        · constructor <;> intro h <;> omega
        · rw [this]
          constructor
          · intro h; exact ⟨by omega, h⟩
          · intro h; exact h.2
theorem lex_trans : ∀ (a b c : List Int), a.length = b.length → b.length = c.length → lex a b < 0 → lex b c ≤ 0 → lex a c = -1 := by
  intro a
  induction a with
  | nil => intro b c _ _ h; simp [lex] at h
  | cons x a ih =>
    intro b c h1 h2 h h'
    cases b with
    | nil => simp at h1
    | cons y b =>
      cases c with
      | nil => simp at h2
      | cons z c =>
        simp only [lex] at h h' ⊢
        have := ih b c (by simpa using h1) (by simpa using h2)
        by_cases a1 : x < y
        · by_cases a2 : y < z
          · rw [if_pos (by omega)]
          · by_cases a3 : z < y
            · rw [if_neg a2, if_pos a3] at h'; omega
            · rw [if_pos (by omega)]
        · by_cases a4 : y < x
          · rw [if_neg a1, if_pos a4] at h; omega
          · rw [if_neg a1, if_neg a4] at h
            by_cases a2 : y < z
            · rw [if_pos (by omega)]
            · by_cases a3 : z < y
              · rw [if_neg a2, if_pos a3] at h'; omega
              · rw [if_neg a2, if_neg a3] at h'
                rw [if_neg (by omega), if_neg (by omega)]
                exact this h h'
theorem cmp_neg {a b : Mo} : Mo.cmp b a = - Mo.cmp a b := by rw [cmp_lex, cmp_lex, lex_neg]
theorem cmp_eq {a b : Mo} : Mo.cmp a b = 0 ↔ a = b := by rw [cmp_lex, lex_eq a.list b.list (by simp [Mo.list]), list_inj]
end Go.Mach.Ytl
