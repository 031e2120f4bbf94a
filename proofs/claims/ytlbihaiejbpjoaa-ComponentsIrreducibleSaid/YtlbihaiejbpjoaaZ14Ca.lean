/-
  Pruned copy of the text Ca. By an AI agent.
-/
import Derived.Test.YtlbihaiejbpjoaaMr
import Derived.Test.YtlbihaiejbpjoaaZ14Tb
set_option linter.unusedSimpArgs false
set_option linter.unusedVariables false
set_option maxRecDepth 100000
namespace Go.Mach.Ytl
open Go.Mach
attribute [local simp] part_false part_true stO_some wrap_int wrap_byte binA ibin
structure Mo where
  x0 : Int
  x1 : Int
  x2 : Int
  x3 : Int
  x4 : Int
  x5 : Int
  x6 : Int
  x7 : Int
  deriving DecidableEq
namespace Mo
def zero : Mo := ⟨0, 0, 0, 0, 0, 0, 0, 0⟩
def cells (a : Mo) : List AV := [.int .i64 a.x0, .int .i64 a.x1, .int .i64 a.x2, .int .i64 a.x3, .int .i64 a.x4, .int .i64 a.x5, .int .i64 a.x6, .int .i64 a.x7]
def map2 (f : Int → Int → Int) (a b : Mo) : Mo := ⟨f a.x0 b.x0, f a.x1 b.x1, f a.x2 b.x2, f a.x3 b.x3, f a.x4 b.x4, f a.x5 b.x5, f a.x6 b.x6, f a.x7 b.x7⟩
end Mo
def mono (a : Mo) : AV := .agg a.cells
theorem flat_mono {a : Mo} : (mono a).flat = some a.cells := rfl
theorem len_cells {a : Mo} : a.cells.length = 8 := rfl
theorem frz_mono {b n : Nat} {H : Heap} {a : Mo} : frz b (n + 2) H (mono a) = some (mono a, H) := by
  simp [mono, Mo.cells]
theorem frz_mono6 {b : Nat} {H : Heap} {a : Mo} : frz b 6 H (mono a) = some (mono a, H) := frz_mono
theorem frz_mono5 {b : Nat} {H : Heap} {a : Mo} : frz b 5 H (mono a) = some (mono a, H) := frz_mono
theorem frz_mono4 {b : Nat} {H : Heap} {a : Mo} : frz b 4 H (mono a) = some (mono a, H) := frz_mono
theorem noNew_mono {b n : Nat} {a : Mo} : (mono a).noNew b (n + 2) = true := by
  simp [mono, Mo.cells]
theorem noNew_mono4 {b : Nat} {a : Mo} : (mono a).noNew b 4 = true := noNew_mono
theorem noNew_mono3 {b : Nat} {a : Mo} : (mono a).noNew b 3 = true := noNew_mono
theorem part_mono {a : Mo} : part true 8 a.cells 0 = some (mono a) := rfl
theorem take_cells {a : Mo} : a.cells.take 8 = a.cells := rfl
theorem put_mono {zs : List AV} {a : Mo} (h : zs.length = 8) : put zs 0 a.cells = a.cells := by
  match zs, h with
  | [_, _, _, _, _, _, _, _], _ => rfl
theorem zero_cells : [.int .i64 0, .int .i64 0, .int .i64 0, .int .i64 0, .int .i64 0, .int .i64 0, .int .i64 0, .int .i64 0] = Mo.zero.cells := rfl
theorem agg_mono {a : Mo} : AV.agg a.cells = mono a := rfl
theorem eqRow_mono {a b : Mo} : eqRow a.cells b.cells = some (decide (a = b)) := by
  obtain ⟨a0, a1, a2, a3, a4, a5, a6, a7⟩ := a
  obtain ⟨b0, b1, b2, b3, b4, b5, b6, b7⟩ := b
  simp only [Mo.cells, eqRow, if_true, List.length_cons, List.length_nil, Mo.mk.injEq, beq_iff_eq, Bool.decide_and]
  by_cases h0 : a0 = b0 <;> simp only [h0, if_true, if_false, decide_true, decide_false, Bool.true_and, Bool.false_and]
  by_cases h1 : a1 = b1 <;> simp only [h1, if_true, if_false, decide_true, decide_false, Bool.true_and, Bool.false_and]
  by_cases h2 : a2 = b2 <;> simp only [h2, if_true, if_false, decide_true, decide_false, Bool.true_and, Bool.false_and]
  by_cases h3 : a3 = b3 <;> simp only [h3, if_true, if_false, decide_true, decide_false, Bool.true_and, Bool.false_and]
  by_cases h4 : a4 = b4 <;> simp only [h4, if_true, if_false, decide_true, decide_false, Bool.true_and, Bool.false_and]
  by_cases h5 : a5 = b5 <;> simp only [h5, if_true, if_false, decide_true, decide_false, Bool.true_and, Bool.false_and]
  by_cases h6 : a6 = b6 <;> simp only [h6, if_true, if_false, decide_true, decide_false, Bool.true_and, Bool.false_and]
  by_cases h7 : a7 = b7 <;> simp only [h7, if_true, if_false, decide_true, decide_false]
def eqaR (neg : Bool) (n : Nat) : AV → AV → Option AV
  | .agg xs, .agg ys => if xs.length = n then (match eqRow xs ys with
    | some b => some (.bool (b != neg))
    | none => none) else none
  | _, _ => none
theorem pureA_eqa {f : AOpd → AV} {H : Heap} {neg : Bool} {n : Nat} {x y : AOpd} : pureA f H (.eqa neg n x y) = eqaR neg n (f x) (f y) := by
  rfl
theorem eqaR_mono {a b : Mo} {neg : Bool} : eqaR neg 8 (mono a) (mono b) = some (.bool (decide (a = b) != neg)) := by
  simp [eqaR, mono, len_cells, eqRow_mono]
attribute [simp ↓ high] pureA_eqa
attribute [simp] take_cells flat_mono len_cells frz_mono frz_mono6 frz_mono5 frz_mono4 noNew_mono noNew_mono4 noNew_mono3 part_mono put_mono zero_cells agg_mono eqaR_mono
theorem call_84 {x y : Int} {n : Nat} {H : Heap} : evalCall tab (n + 1) 84 [.int .i64 x, .int .i64 y] H = some (.int .i64 (if y < x then y else x), H) := by
  rw [call_enter tab_84 (by simp [AF84]) (.inr rfl)]
  simp -implicitDefEqProofs [AF84, mmA, mm2]
theorem call_79 {a b : Mo} {g : Nat} {f : Int → Int → Int} {n : Nat} (hf : ∀ x y m H, evalCall tab (m + 1) g [.int .i64 x, .int .i64 y] H = some (.int .i64 (f x y), H)) {H : Heap} : evalCall tab (n + 12) 79 [mono a, mono b, .fn g [] []] H = some (mono (Mo.map2 f a b), H) := by
  rw [call_enter tab_79 (by simp [AF79]) (.inr (by simp))]
  simp -implicitDefEqProofs [AF79, mono, Mo.cells, Mo.map2, iaddrA, hf, Nat.add_assoc, -zero_cells, -agg_mono]
def imax (x y : Int) : Int := if x < y then y else x
def imin (x y : Int) : Int := if y < x then y else x
theorem call_39 {a b : Mo} {n : Nat} {H : Heap} : evalCall tab (n + 14) 39 [mono a, mono b] H = some (mono (Mo.map2 imin a b), H) := by
  rw [call_enter tab_39 (by simp [AF39]) (.inr (by simp))]
  have h : ∀ H, evalCall tab (n + 13) 79 _ H = _ := fun H => call_79 (a := a) (b := b) (g := 84) (f := imin) (n := n + 1) (fun _ _ _ _ => call_84) (H := H)
  simp -implicitDefEqProofs [AF39, Nat.add_assoc, h]
theorem call_33 {a b : Mo} {n : Nat} {H : Heap} : evalCall tab (n + 16) 33 [mono a, mono b] H = some (.bool (decide (Mo.map2 imin a b = a)), H) := by
  rw [call_enter tab_33 (by simp [AF33]) (.inr (by simp))]
  simp -implicitDefEqProofs [AF33, Nat.add_assoc, call_39]
def Mo.valid (a : Mo) : Prop := (0 ≤ a.x0 ∧ a.x0 ≤ 65535) ∧ (0 ≤ a.x1 ∧ a.x1 ≤ 65535) ∧ (0 ≤ a.x2 ∧ a.x2 ≤ 65535) ∧ (0 ≤ a.x3 ∧ a.x3 ≤ 65535) ∧ (0 ≤ a.x4 ∧ a.x4 ≤ 65535) ∧ (0 ≤ a.x5 ∧ a.x5 ≤ 65535) ∧ (0 ≤ a.x6 ∧ a.x6 ≤ 65535) ∧ (0 ≤ a.x7 ∧ a.x7 ≤ 65535)
instance {a : Mo} : Decidable a.valid := by unfold Mo.valid; infer_instance
theorem call_45 {a : Mo} {n : Nat} {H : Heap} : evalCall tab (n + 12) 45 [mono a] H = some (.bool (decide a.valid), H) := by
  rw [call_enter tab_45 (by simp [AF45]) (.inr (by simp))]
  by_cases p0 : a.x0 < 0
  · have hv : ¬ a.valid := by unfold Mo.valid; omega
    simp -implicitDefEqProofs [AF45, Nat.add_assoc, mono, Mo.cells, -agg_mono, -zero_cells, hv, p0]
  · skip
    by_cases q0 : 65535 < a.x0
    · have hv : ¬ a.valid := by unfold Mo.valid; omega
      simp -implicitDefEqProofs [AF45, Nat.add_assoc, mono, Mo.cells, -agg_mono, -zero_cells, hv, p0, q0]
    · skip
      by_cases p1 : a.x1 < 0
      · have hv : ¬ a.valid := by unfold Mo.valid; omega
        simp -implicitDefEqProofs [AF45, Nat.add_assoc, mono, Mo.cells, -agg_mono, -zero_cells, hv, p0, q0, p1]
      · skip
        by_cases q1 : 65535 < a.x1
        · have hv : ¬ a.valid := by unfold Mo.valid; omega
          simp -implicitDefEqProofs [AF45, Nat.add_assoc, mono, Mo.cells, -agg_mono, -zero_cells, hv, p0, q0, p1, q1]
        · skip
          by_cases p2 : a.x2 < 0
          · have hv : ¬ a.valid := by unfold Mo.valid; omega
            simp -implicitDefEqProofs [AF45, Nat.add_assoc, mono, Mo.cells, -agg_mono, -zero_cells, hv, p0, q0, p1, q1, p2]
          · skip
            by_cases q2 : 65535 < a.x2
            · have hv : ¬ a.valid := by unfold Mo.valid; omega
              simp -implicitDefEqProofs [AF45, Nat.add_assoc, mono, Mo.cells, -agg_mono, -zero_cells, hv, p0, q0, p1, q1, p2, q2]
            · skip
              by_cases p3 : a.x3 < 0
              · have hv : ¬ a.valid := by unfold Mo.valid; omega
                simp -implicitDefEqProofs [AF45, Nat.add_assoc, mono, Mo.cells, -agg_mono, -zero_cells, hv, p0, q0, p1, q1, p2, q2, p3]
              · skip
                by_cases q3 : 65535 < a.x3
                · have hv : ¬ a.valid := by unfold Mo.valid; omega
                  simp -implicitDefEqProofs [AF45, Nat.add_assoc, mono, Mo.cells, -agg_mono, -zero_cells, hv, p0, q0, p1, q1, p2, q2, p3, q3]
                · skip
                  by_cases p4 : a.x4 < 0
                  · have hv : ¬ a.valid := by unfold Mo.valid; omega
                    simp -implicitDefEqProofs [AF45, Nat.add_assoc, mono, Mo.cells, -agg_mono, -zero_cells, hv, p0, q0, p1, q1, p2, q2, p3, q3, p4]
                  · skip
                    by_cases q4 : 65535 < a.x4
                    · have hv : ¬ a.valid := by unfold Mo.valid; omega
                      simp -implicitDefEqProofs [AF45, Nat.add_assoc, mono, Mo.cells, -agg_mono, -zero_cells, hv, p0, q0, p1, q1, p2, q2, p3, q3, p4, q4]
                    · skip
                      by_cases p5 : a.x5 < 0
                      · have hv : ¬ a.valid := by unfold Mo.valid; omega
                        simp -implicitDefEqProofs [AF45, Nat.add_assoc, mono, Mo.cells, -agg_mono, -zero_cells, hv, p0, q0, p1, q1, p2, q2, p3, q3, p4, q4, p5]
                      · skip
                        by_cases q5 : 65535 < a.x5
                        · have hv : ¬ a.valid := by unfold Mo.valid; omega
                          simp -implicitDefEqProofs [AF45, Nat.add_assoc, mono, Mo.cells, -agg_mono, -zero_cells, hv, p0, q0, p1, q1, p2, q2, p3, q3, p4, q4, p5, q5]
                        · skip
                          by_cases p6 : a.x6 < 0
                          · have hv : ¬ a.valid := by unfold Mo.valid; omega
                            simp -implicitDefEqProofs [AF45, Nat.add_assoc, mono, Mo.cells, -agg_mono, -zero_cells, hv, p0, q0, p1, q1, p2, q2, p3, q3, p4, q4, p5, q5, p6]
                          · skip
                            by_cases q6 : 65535 < a.x6
                            · have hv : ¬ a.valid := by unfold Mo.valid; omega
                              simp -implicitDefEqProofs [AF45, Nat.add_assoc, mono, Mo.cells, -agg_mono, -zero_cells, hv, p0, q0, p1, q1, p2, q2, p3, q3, p4, q4, p5, q5, p6, q6]
                            · skip
                              by_cases p7 : a.x7 < 0
                              · have hv : ¬ a.valid := by unfold Mo.valid; omega
                                simp -implicitDefEqProofs [AF45, Nat.add_assoc, mono, Mo.cells, -agg_mono, -zero_cells, hv, p0, q0, p1, q1, p2, q2, p3, q3, p4, q4, p5, q5, p6, q6, p7]
                              · skip
                                by_cases q7 : 65535 < a.x7
                                · have hv : ¬ a.valid := by unfold Mo.valid; omega
                                  simp -implicitDefEqProofs [AF45, Nat.add_assoc, mono, Mo.cells, -agg_mono, -zero_cells, hv, p0, q0, p1, q1, p2, q2, p3, q3, p4, q4, p5, q5, p6, q6, p7, q7]
                                · skip
                                  have hv : a.valid := by unfold Mo.valid; omega
                                  simp -implicitDefEqProofs [AF45, Nat.add_assoc, mono, Mo.cells, -agg_mono, -zero_cells, hv, p0, q0, p1, q1, p2, q2, p3, q3, p4, q4, p5, q5, p6, q6, p7, q7]
end Go.Mach.Ytl
