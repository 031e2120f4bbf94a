/-
  Pruned copy of the text Va. By an AI agent.
-/
import Derived.Test.YtlbihaiejbpjoaaZ17Se
set_option linter.unusedSimpArgs false
set_option linter.unusedVariables false
set_option maxRecDepth 100000
namespace Go.Mach.Ytl
open Go.Mach
def Small (t : Mo) : Prop := ∀ q, 0 ≤ t.get q ∧ t.get q ≤ 4
theorem Small.nn {t : Mo} (h : Small t) : t.nn := nn_get.2 fun q _ => (h q).1
theorem or_byte {a b : Nat} (ha : a < 256) (hb : b < 256) : orK .u8 (a : Int) (b : Int) = ((a ||| b : Nat) : Int) := by
  have e : (BitVec.ofInt IntKind.u8.bits (a : Int) ||| BitVec.ofInt IntKind.u8.bits (b : Int)).toNat = a ||| b := by
    rw [BitVec.toNat_or, BitVec.ofInt_natCast, BitVec.ofInt_natCast, BitVec.toNat_ofNat, BitVec.toNat_ofNat]
    show a % 2 ^ 8 ||| b % 2 ^ 8 = a ||| b
    rw [Nat.mod_eq_of_lt (show a < 2 ^ 8 by omega), Nat.mod_eq_of_lt (show b < 2 ^ 8 by omega)]
  unfold orK
  rw [e]
  have hlt : a ||| b < 2 ^ 8 := Nat.or_lt_two_pow (by omega) (by omega)
  exact wrap_byte (by omega) (by omega)
def eM (q : Nat) : Mo := Mo.zero.setI q 1
theorem set_ext {a b : Nat} (ha : a < 256) (hb : b < 256) (h : ∀ q, q < 8 → (a.testBit q = true ↔ b.testBit q = true)) : a = b := by
  apply Nat.eq_of_testBit_eq
  intro q
  by_cases hq : q < 8
  · rw [Bool.eq_iff_iff]; exact h q hq
  · have h8 : (256 : Nat) ≤ 2 ^ q := by
      have : 2 ^ 8 ≤ 2 ^ q := Nat.pow_le_pow_right (by omega) (by omega)
      omega
    rw [Nat.testBit_lt_two_pow (by omega), Nat.testBit_lt_two_pow (by omega)]
end Go.Mach.Ytl
