/-
  Pruned copy of the text Se. By an AI agent.
-/
import Derived.Test.YtlbihaiejbpjoaaZ4Sd
set_option linter.unusedSimpArgs false
set_option linter.unusedVariables false
set_option maxRecDepth 100000
namespace Go.Mach.Ytl
open Go.Mach
def bitN (s : Nat) : Nat → Mo
  | 0 => Mo.zero
  | j + 1 => (bitN s j).setI j ((s / 2 ^ j % 2 : Nat) : Int)
def primeM (s : Nat) : Mo := bitN s 8
theorem bitN_get {s : Nat} : ∀ j, j ≤ 8 → ∀ q, (bitN s j).get q = if q < j then ((s / 2 ^ q % 2 : Nat) : Int) else 0
  | 0, _, q => by simp [bitN, zero_get]
  | j + 1, h, q => by
    have ih := bitN_get (s := s) j (by omega)
    rw [bitN, get_set (by omega)]
    by_cases hq : q = j
    · subst hq; rw [if_pos rfl, if_pos (by omega)]
    · rw [if_neg hq, ih q]
      by_cases h2 : q < j
      · rw [if_pos h2, if_pos (by omega)]
      · rw [if_neg h2, if_neg (by omega)]
theorem prime_get {s q : Nat} (h : q < 8) : (primeM s).get q = if s.testBit q then 1 else 0 := by
  rw [primeM, bitN_get 8 (Nat.le_refl _), if_pos h, Nat.testBit_eq_decide_div_mod_eq]
  have : s / 2 ^ q % 2 < 2 := Nat.mod_lt _ (by omega)
  by_cases h : s / 2 ^ q % 2 = 1
  · rw [h]; simp
  · have h0 : s / 2 ^ q % 2 = 0 := by omega
    rw [h0]; simp
theorem Sets.nat {P : List Mo} {S : List Int} (h : Sets P S) {s : Int} (hs : s ∈ S) : ∃ k : Nat, k < 256 ∧ s = (k : Int) := by
  obtain ⟨a, _, e⟩ := (h.mem s).1 hs
  exact ⟨supN a, supN_lt a, e.symm⟩
end Go.Mach.Ytl
