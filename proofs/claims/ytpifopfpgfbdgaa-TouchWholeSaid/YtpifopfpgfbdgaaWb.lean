/-
  TouchWhole in the machine: Whole, the law. By an AI agent.
-/
import Derived.Test.YtpifopfpgfbdgaaWa
set_option linter.unusedSimpArgs false
set_option linter.unusedVariables false
set_option maxRecDepth 100000
namespace Go.Mach.Ytl
open Go.Mach
attribute [local simp] part_false part_true stO_some binA ibin
theorem guardC_u {call : CallFn} {n : Nat} {s : List Itm} {k : KF} {σ : Sig} {H : Heap} {want : Bool} {d : Option Nat} {op : AOp} {b : Bool} {l : List AOper} : guardC call n undefA want d op b l s k σ H = os call n l s k (putS σ d undefA) H := rfl
attribute [local simp] guardC_u
/-- A claim of a kind, and nothing else. -/
def clm (k : Int) : AV := .agg [.int .i64 k, .nils, .int .i64 0, .int .i64 0, .int .i64 0, .nils, .nils, .nils, .nils]
def whB (k : Int) : Bool := decide (k = 2 ∨ 4 ≤ k ∧ k ≤ 8 ∨ k = 11 ∨ k = 13)
theorem clm_flat {k : Int} : (clm k).flat = some [.int .i64 k, .nils, .int .i64 0, .int .i64 0, .int .i64 0, .nils, .nils, .nils, .nils] := rfl
theorem clm_frz {k : Int} {b n : Nat} {H : Heap} : frz b (n + 2) H (clm k) = some (clm k, H) := rfl
theorem call_5 {k : Int} {n : Nat} {H : Heap} : evalCall tab (n + 1) 5 [clm k] H = some (.bool (whB k), H) := by
  rw [call_enter tab_5 (by simp [AF5]) (.inr (by simp [clm_frz]))]
  by_cases h1 : k = 1
  · subst h1; simp -implicitDefEqProofs [AF5, clm_flat, unA, whB]
  by_cases h3 : k = 3
  · subst h3; simp -implicitDefEqProofs [AF5, clm_flat, unA, whB]
  by_cases h9 : k = 9
  · subst h9; simp -implicitDefEqProofs [AF5, clm_flat, unA, whB]
  by_cases h10 : k = 10
  · subst h10; simp -implicitDefEqProofs [AF5, clm_flat, unA, whB]
  by_cases h12 : k = 12
  · subst h12; simp -implicitDefEqProofs [AF5, clm_flat, unA, whB]
  have e1 : (k == 1) = false := by simpa using h1
  have e3 : (k == 3) = false := by simpa using h3
  have e9 : (k == 9) = false := by simpa using h9
  have e10 : (k == 10) = false := by simpa using h10
  have e12 : (k == 12) = false := by simpa using h12
  by_cases hl : 1 ≤ k
  · by_cases hu : k ≤ 13
    · have hw : whB k = true := by unfold whB; rw [decide_eq_true_eq]; omega
      rw [hw]
      simp -implicitDefEqProofs [AF5, clm_flat, unA, e1, e3, e9, e10, e12, hl, hu]
    · have hw : whB k = false := by unfold whB; rw [decide_eq_false_iff_not]; omega
      rw [hw]
      simp -implicitDefEqProofs [AF5, clm_flat, unA, e1, e3, e9, e10, e12, hl, hu]
  · have hw : whB k = false := by unfold whB; rw [decide_eq_false_iff_not]; omega
    rw [hw]
    simp -implicitDefEqProofs [AF5, clm_flat, unA, e1, e3, e9, e10, e12, hl]
theorem fill_clm {k : Int} : fillA [.int .i64 0, .nils, .int .i64 0, .int .i64 0, .int .i64 0, .nils, .nils, .nils, .nils] [(0, 1, .int .i64 k)] = some [.int .i64 k, .nils, .int .i64 0, .int .i64 0, .int .i64 0, .nils, .nils, .nils, .nils] := rfl
theorem agg_clm {k : Int} : AV.agg [.int .i64 k, .nils, .int .i64 0, .int .i64 0, .int .i64 0, .nils, .nils, .nils, .nils] = clm k := rfl
theorem law3 {k : Int} : evalCall tab 151 3 [.int .i64 k] Heap.empty = some (.bool true, Heap.empty) := by
  have hs : evalCall tab 150 4 [] Heap.empty.begin = some (.bool true, _) := san _
  have c5 := fun H => call_5 (k := k) (n := 149) (H := H)
  rw [call_enter tab_3 (by simp [AF3]) (.inr (by simp))]
  by_cases h2 : k = 2
  · have hw : whB k = true := by unfold whB; rw [decide_eq_true_eq]; omega
    have e2 : (k == 2) = true := by simpa using h2
    rw [hw] at c5
    simp -implicitDefEqProofs [AF3, hs, fill_clm, agg_clm, c5, unA, e2]
  have e2 : (k == 2) = false := by simpa using h2
  by_cases h4 : 4 ≤ k
  · by_cases h8 : k ≤ 8
    · have hw : whB k = true := by unfold whB; rw [decide_eq_true_eq]; omega
      rw [hw] at c5
      simp -implicitDefEqProofs [AF3, hs, fill_clm, agg_clm, c5, unA, e2, h4, h8]
    · by_cases h11 : k = 11
      · have hw : whB k = true := by unfold whB; rw [decide_eq_true_eq]; omega
        have e11 : (k == 11) = true := by simpa using h11
        rw [hw] at c5
        simp -implicitDefEqProofs [AF3, hs, fill_clm, agg_clm, c5, unA, e2, h4, h8, e11]
      · have e11 : (k == 11) = false := by simpa using h11
        by_cases h13 : k = 13
        · have hw : whB k = true := by unfold whB; rw [decide_eq_true_eq]; omega
          have e13 : (k == 13) = true := by simpa using h13
          rw [hw] at c5
          simp -implicitDefEqProofs [AF3, hs, fill_clm, agg_clm, c5, unA, e2, h4, h8, e11, e13]
        · have hw : whB k = false := by unfold whB; rw [decide_eq_false_iff_not]; omega
          have e13 : (k == 13) = false := by simpa using h13
          rw [hw] at c5
          simp -implicitDefEqProofs [AF3, hs, fill_clm, agg_clm, c5, unA, e2, h4, h8, e11, e13]
  · have e11 : (k == 11) = false := by simp; omega
    have e13 : (k == 13) = false := by simp; omega
    have hw : whB k = false := by unfold whB; rw [decide_eq_false_iff_not]; omega
    rw [hw] at c5
    simp -implicitDefEqProofs [AF3, hs, fill_clm, agg_clm, c5, unA, e2, h4, e11, e13]
end Go.Mach.Ytl
