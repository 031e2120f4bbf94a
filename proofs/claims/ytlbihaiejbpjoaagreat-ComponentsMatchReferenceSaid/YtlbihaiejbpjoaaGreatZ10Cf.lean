/-
  Pruned copy of the text Cd Ce Cf. By an AI agent.
-/
import Derived.Test.YtlbihaiejbpjoaaGreatZ10Cc
import Derived.Test.YtlbihaiejbpjoaaGreatZ10Cs
set_option linter.unusedSimpArgs false
set_option linter.unusedVariables false
set_option maxRecDepth 100000
namespace Go.Mach.Ytl
open Go.Mach
attribute [local simp] part_false part_true stO_some wrap_int wrap_byte binA ibin
theorem min_le {a b : Mo} : (Mo.map2 imin a b = a) = Mo.le a b := by
  obtain ⟨a0, a1, a2, a3, a4, a5, a6, a7⟩ := a
  obtain ⟨b0, b1, b2, b3, b4, b5, b6, b7⟩ := b
  have key : ∀ p q : Int, (imin p q = p) = (p ≤ q) := fun p q => by
    apply propext; unfold imin; split <;> omega
  simp only [Mo.map2, Mo.le, Mo.mk.injEq, key]
theorem sup_eq {a : Mo} : a.sup' = a.sup := by
  obtain ⟨a0, a1, a2, a3, a4, a5, a6, a7⟩ := a
  simp only [Mo.sup, Mo.sup', stO', stA']
  by_cases h0 : 0 < a0 <;> by_cases h1 : 0 < a1 <;> by_cases h2 : 0 < a2 <;> by_cases h3 : 0 < a3 <;> by_cases h4 : 0 < a4 <;> by_cases h5 : 0 < a5 <;> by_cases h6 : 0 < a6 <;> by_cases h7 : 0 < a7 <;>
    simp only [h0, h1, h2, h3, h4, h5, h6, h7, if_true, if_false] <;> rfl
def Mo.rcells (x : Mo) : List AV := [.int .u16 x.x0, .int .u16 x.x1, .int .u16 x.x2, .int .u16 x.x3, .int .u16 x.x4, .int .u16 x.x5, .int .u16 x.x6, .int .u16 x.x7]
theorem flat_raw {x : Mo} : (raw x).flat = some x.rcells := rfl
theorem len_rcells {x : Mo} : x.rcells.length = 8 := rfl
theorem frz_raw6 {b : Nat} {H : Heap} {x : Mo} : frz b 6 H (raw x) = some (raw x, H) := by simp [raw]
theorem frz_raw5 {b : Nat} {H : Heap} {x : Mo} : frz b 5 H (raw x) = some (raw x, H) := by simp [raw]
theorem take_rcells {x : Mo} : x.rcells.take 8 = x.rcells := rfl
theorem agg_raw {x : Mo} : AV.agg x.rcells = raw x := rfl
theorem empty_next : Heap.empty.next = 0 := rfl
theorem empty_base : Heap.empty.base = 0 := rfl
attribute [simp] flat_raw len_rcells frz_raw6 frz_raw5 take_rcells agg_raw empty_next empty_base
end Go.Mach.Ytl
set_option linter.unusedSimpArgs false
set_option linter.unusedVariables false
set_option maxRecDepth 100000
namespace Go.Mach.Ytl
open Go.Mach
attribute [local simp] part_false part_true stO_some wrap_int wrap_byte binA ibin
theorem le_refl {a : Mo} : Mo.le a a := by unfold Mo.le; omega
theorem le_trans {a b c : Mo} (h : Mo.le a b) (k : Mo.le b c) : Mo.le a c := by unfold Mo.le at *; omega
theorem le_antisymm {a b : Mo} (h : Mo.le a b) (k : Mo.le b a) : a = b := by
  obtain ⟨a0, a1, a2, a3, a4, a5, a6, a7⟩ := a
  obtain ⟨b0, b1, b2, b3, b4, b5, b6, b7⟩ := b
  simp only [Mo.le] at h k
  simp only [Mo.mk.injEq]
  omega
theorem zero_le {a : Mo} (h : a.valid) : Mo.le Mo.zero a := by unfold Mo.le Mo.zero; unfold Mo.valid at h; simp only; omega
theorem max_le_iff {a b c : Mo} : Mo.le (Mo.map2 imax a b) c ↔ Mo.le a c ∧ Mo.le b c := by
  have key : ∀ p q r : Int, imax p q ≤ r ↔ p ≤ r ∧ q ≤ r := fun p q r => by unfold imax; split <;> omega
  simp only [Mo.le, Mo.map2, key]
  constructor <;> (intro h; omega)
end Go.Mach.Ytl
set_option linter.unusedSimpArgs false
set_option linter.unusedVariables false
set_option maxRecDepth 100000
namespace Go.Mach.Ytl
open Go.Mach
attribute [local simp] part_false part_true stO_some wrap_int wrap_byte binA ibin
def lex : List Int → List Int → Int
  | x :: xs, y :: ys => if x < y then -1 else if y < x then 1 else lex xs ys
  | _, _ => 0
def Mo.list (a : Mo) : List Int := [a.x0, a.x1, a.x2, a.x3, a.x4, a.x5, a.x6, a.x7]
theorem cmp_lex {a b : Mo} : Mo.cmp a b = lex a.list b.list := by
  simp only [Mo.cmp, Mo.list, lex]
theorem list_inj {a b : Mo} : a.list = b.list ↔ a = b := by
  obtain ⟨a0, a1, a2, a3, a4, a5, a6, a7⟩ := a
  obtain ⟨b0, b1, b2, b3, b4, b5, b6, b7⟩ := b
  simp [Mo.list]
theorem lex_range : ∀ (a b : List Int), lex a b = -1 ∨ lex a b = 0 ∨ lex a b = 1 := by
  intro a
  induction a with
  | nil => intro b; simp [lex]
  | cons x a ih =>
    intro b
    cases b with
    | nil => simp [lex]
    | cons y b =>
      simp only [lex]
      split
      · simp
      · split
        · simp
        · exact ih b
theorem lex_neg : ∀ (a b : List Int), lex b a = - lex a b := by
  intro a
  induction a with
  | nil => intro b; cases b <;> simp [lex]
  | cons x a ih =>
    intro b
    cases b with
    | nil => simp [lex]
    | cons y b =>
      simp only [lex]
      by_cases h : x < y
      · rw [if_neg (by omega), if_pos h, if_pos h]; rfl
      · by_cases h2 : y < x
        · rw [if_pos h2, if_neg h, if_pos h2]
        · rw [if_neg h2, if_neg h, if_neg h, if_neg h2]; exact ih b
theorem lex_eq : ∀ (a b : List Int), a.length = b.length → (lex a b = 0 ↔ a = b) := by
  intro a
  induction a with
  | nil => intro b h; cases b <;> simp_all [lex]
  | cons x a ih =>
    intro b h
    cases b with
    | nil => simp at h
    | cons y b =>
      simp only [lex, List.cons.injEq]
      have := ih b (by simpa using h)
      split
      · constructor <;> intro h <;> omega
      · split
        · constructor <;> intro h <;> omega
        · rw [this]
          constructor
          · intro h; exact ⟨by omega, h⟩
          · intro h; exact h.2
theorem lex_trans : ∀ (a b c : List Int), a.length = b.length → b.length = c.length → lex a b < 0 → lex b c ≤ 0 → lex a c = -1 := by
  intro a
  induction a with
  | nil => intro b c _ _ h; simp [lex] at h
  | cons x a ih =>
    intro b c h1 h2 h h'
    cases b with
    | nil => simp at h1
    | cons y b =>
      cases c with
      | nil => simp at h2
      | cons z c =>
        simp only [lex] at h h' ⊢
        have := ih b c (by simpa using h1) (by simpa using h2)
        by_cases a1 : x < y
        · by_cases a2 : y < z
          · rw [if_pos (by omega)]
          · by_cases a3 : z < y
            · rw [if_neg a2, if_pos a3] at h'; omega
            · rw [if_pos (by omega)]
        · by_cases a4 : y < x
          · rw [if_neg a1, if_pos a4] at h; omega
          · rw [if_neg a1, if_neg a4] at h
            by_cases a2 : y < z
            · rw [if_pos (by omega)]
            · by_cases a3 : z < y
              · rw [if_neg a2, if_pos a3] at h'; omega
              · rw [if_neg a2, if_neg a3] at h'
                rw [if_neg (by omega), if_neg (by omega)]
                exact this h h'
theorem cmp_neg {a b : Mo} : Mo.cmp b a = - Mo.cmp a b := by rw [cmp_lex, cmp_lex, lex_neg]
theorem cmp_eq {a b : Mo} : Mo.cmp a b = 0 ↔ a = b := by rw [cmp_lex, lex_eq a.list b.list (by simp [Mo.list]), list_inj]
end Go.Mach.Ytl
