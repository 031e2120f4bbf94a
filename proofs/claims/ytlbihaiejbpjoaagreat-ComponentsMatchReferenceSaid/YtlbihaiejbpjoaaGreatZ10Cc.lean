/-
  Pruned copy of the text Ca Cb Cc. By an AI agent.
-/
import Derived.Test.YtlbihaiejbpjoaaGreatMr
import Derived.Test.YtlbihaiejbpjoaaGreatZ10Tb
set_option linter.unusedSimpArgs false
set_option linter.unusedVariables false
set_option maxRecDepth 100000
namespace Go.Mach.Ytl
open Go.Mach
attribute [local simp] part_false part_true stO_some wrap_int wrap_byte binA ibin
structure Mo where
  x0 : Int
  x1 : Int
  x2 : Int
  x3 : Int
  x4 : Int
  x5 : Int
  x6 : Int
  x7 : Int
  deriving DecidableEq
namespace Mo
def zero : Mo := ⟨0, 0, 0, 0, 0, 0, 0, 0⟩
def cells (a : Mo) : List AV := [.int .i64 a.x0, .int .i64 a.x1, .int .i64 a.x2, .int .i64 a.x3, .int .i64 a.x4, .int .i64 a.x5, .int .i64 a.x6, .int .i64 a.x7]
def map2 (f : Int → Int → Int) (a b : Mo) : Mo := ⟨f a.x0 b.x0, f a.x1 b.x1, f a.x2 b.x2, f a.x3 b.x3, f a.x4 b.x4, f a.x5 b.x5, f a.x6 b.x6, f a.x7 b.x7⟩
end Mo
def mono (a : Mo) : AV := .agg a.cells
theorem flat_mono {a : Mo} : (mono a).flat = some a.cells := rfl
theorem len_cells {a : Mo} : a.cells.length = 8 := rfl
theorem frz_mono {b n : Nat} {H : Heap} {a : Mo} : frz b (n + 2) H (mono a) = some (mono a, H) := by
  simp [mono, Mo.cells]
theorem frz_mono6 {b : Nat} {H : Heap} {a : Mo} : frz b 6 H (mono a) = some (mono a, H) := frz_mono
theorem frz_mono5 {b : Nat} {H : Heap} {a : Mo} : frz b 5 H (mono a) = some (mono a, H) := frz_mono
theorem frz_mono4 {b : Nat} {H : Heap} {a : Mo} : frz b 4 H (mono a) = some (mono a, H) := frz_mono
theorem noNew_mono {b n : Nat} {a : Mo} : (mono a).noNew b (n + 2) = true := by
  simp [mono, Mo.cells]
theorem noNew_mono4 {b : Nat} {a : Mo} : (mono a).noNew b 4 = true := noNew_mono
theorem noNew_mono3 {b : Nat} {a : Mo} : (mono a).noNew b 3 = true := noNew_mono
theorem part_mono {a : Mo} : part true 8 a.cells 0 = some (mono a) := rfl
theorem take_cells {a : Mo} : a.cells.take 8 = a.cells := rfl
theorem put_mono {zs : List AV} {a : Mo} (h : zs.length = 8) : put zs 0 a.cells = a.cells := by
  match zs, h with
  | [_, _, _, _, _, _, _, _], _ => rfl
theorem zero_cells : [.int .i64 0, .int .i64 0, .int .i64 0, .int .i64 0, .int .i64 0, .int .i64 0, .int .i64 0, .int .i64 0] = Mo.zero.cells := rfl
theorem agg_mono {a : Mo} : AV.agg a.cells = mono a := rfl
theorem eqRow_mono {a b : Mo} : eqRow a.cells b.cells = some (decide (a = b)) := by
  obtain ⟨a0, a1, a2, a3, a4, a5, a6, a7⟩ := a
  obtain ⟨b0, b1, b2, b3, b4, b5, b6, b7⟩ := b
  simp only [Mo.cells, eqRow, if_true, List.length_cons, List.length_nil, Mo.mk.injEq, beq_iff_eq, Bool.decide_and]
  by_cases h0 : a0 = b0 <;> simp only [h0, if_true, if_false, decide_true, decide_false, Bool.true_and, Bool.false_and]
  by_cases h1 : a1 = b1 <;> simp only [h1, if_true, if_false, decide_true, decide_false, Bool.true_and, Bool.false_and]
  by_cases h2 : a2 = b2 <;> simp only [h2, if_true, if_false, decide_true, decide_false, Bool.true_and, Bool.false_and]
  by_cases h3 : a3 = b3 <;> simp only [h3, if_true, if_false, decide_true, decide_false, Bool.true_and, Bool.false_and]
  by_cases h4 : a4 = b4 <;> simp only [h4, if_true, if_false, decide_true, decide_false, Bool.true_and, Bool.false_and]
  by_cases h5 : a5 = b5 <;> simp only [h5, if_true, if_false, decide_true, decide_false, Bool.true_and, Bool.false_and]
  by_cases h6 : a6 = b6 <;> simp only [h6, if_true, if_false, decide_true, decide_false, Bool.true_and, Bool.false_and]
  by_cases h7 : a7 = b7 <;> simp only [h7, if_true, if_false, decide_true, decide_false]
def eqaR (neg : Bool) (n : Nat) : AV → AV → Option AV
  | .agg xs, .agg ys => if xs.length = n then (match eqRow xs ys with
    | some b => some (.bool (b != neg))
    | none => none) else none
  | _, _ => none
theorem pureA_eqa {f : AOpd → AV} {H : Heap} {neg : Bool} {n : Nat} {x y : AOpd} : pureA f H (.eqa neg n x y) = eqaR neg n (f x) (f y) := by
  rfl
theorem eqaR_mono {a b : Mo} {neg : Bool} : eqaR neg 8 (mono a) (mono b) = some (.bool (decide (a = b) != neg)) := by
  simp [eqaR, mono, len_cells, eqRow_mono]
attribute [simp ↓ high] pureA_eqa
attribute [simp] take_cells flat_mono len_cells frz_mono frz_mono6 frz_mono5 frz_mono4 noNew_mono noNew_mono4 noNew_mono3 part_mono put_mono zero_cells agg_mono eqaR_mono
theorem call_83 {x y : Int} {n : Nat} {H : Heap} : evalCall tab (n + 1) 70 [.int .i64 x, .int .i64 y] H = some (.int .i64 (if x < y then y else x), H) := by
  rw [call_enter tab_83 (by simp [AF83]) (.inr rfl)]
  simp -implicitDefEqProofs [AF83, mmA, mm2]
theorem call_84 {x y : Int} {n : Nat} {H : Heap} : evalCall tab (n + 1) 71 [.int .i64 x, .int .i64 y] H = some (.int .i64 (if y < x then y else x), H) := by
  rw [call_enter tab_84 (by simp [AF84]) (.inr rfl)]
  simp -implicitDefEqProofs [AF84, mmA, mm2]
theorem call_79 {a b : Mo} {g : Nat} {f : Int → Int → Int} {n : Nat} (hf : ∀ x y m H, evalCall tab (m + 1) g [.int .i64 x, .int .i64 y] H = some (.int .i64 (f x y), H)) {H : Heap} : evalCall tab (n + 12) 69 [mono a, mono b, .fn g [] []] H = some (mono (Mo.map2 f a b), H) := by
  rw [call_enter tab_79 (by simp [AF79]) (.inr (by simp))]
  simp -implicitDefEqProofs [AF79, mono, Mo.cells, Mo.map2, iaddrA, hf, Nat.add_assoc, -zero_cells, -agg_mono]
def imax (x y : Int) : Int := if x < y then y else x
def imin (x y : Int) : Int := if y < x then y else x
theorem call_37 {a b : Mo} {n : Nat} {H : Heap} : evalCall tab (n + 14) 46 [mono a, mono b] H = some (mono (Mo.map2 imax a b), H) := by
  rw [call_enter tab_37 (by simp [AF37]) (.inr (by simp))]
  have h : ∀ H, evalCall tab (n + 13) 69 _ H = _ := fun H => call_79 (a := a) (b := b) (g := 70) (f := imax) (n := n + 1) (fun _ _ _ _ => call_83) (H := H)
  simp -implicitDefEqProofs [AF37, Nat.add_assoc, h]
theorem call_39 {a b : Mo} {n : Nat} {H : Heap} : evalCall tab (n + 14) 55 [mono a, mono b] H = some (mono (Mo.map2 imin a b), H) := by
  rw [call_enter tab_39 (by simp [AF39]) (.inr (by simp))]
  have h : ∀ H, evalCall tab (n + 13) 69 _ H = _ := fun H => call_79 (a := a) (b := b) (g := 71) (f := imin) (n := n + 1) (fun _ _ _ _ => call_84) (H := H)
  simp -implicitDefEqProofs [AF39, Nat.add_assoc, h]
theorem call_33 {a b : Mo} {n : Nat} {H : Heap} : evalCall tab (n + 16) 30 [mono a, mono b] H = some (.bool (decide (Mo.map2 imin a b = a)), H) := by
  rw [call_enter tab_33 (by simp [AF33]) (.inr (by simp))]
  simp -implicitDefEqProofs [AF33, Nat.add_assoc, call_39]
def Mo.valid (a : Mo) : Prop := (0 ≤ a.x0 ∧ a.x0 ≤ 65535) ∧ (0 ≤ a.x1 ∧ a.x1 ≤ 65535) ∧ (0 ≤ a.x2 ∧ a.x2 ≤ 65535) ∧ (0 ≤ a.x3 ∧ a.x3 ≤ 65535) ∧ (0 ≤ a.x4 ∧ a.x4 ≤ 65535) ∧ (0 ≤ a.x5 ∧ a.x5 ≤ 65535) ∧ (0 ≤ a.x6 ∧ a.x6 ≤ 65535) ∧ (0 ≤ a.x7 ∧ a.x7 ≤ 65535)
instance {a : Mo} : Decidable a.valid := by unfold Mo.valid; infer_instance
theorem call_45 {a : Mo} {n : Nat} {H : Heap} : evalCall tab (n + 12) 24 [mono a] H = some (.bool (decide a.valid), H) := by
  rw [call_enter tab_45 (by simp [AF45]) (.inr (by simp))]
  by_cases p0 : a.x0 < 0
  · have hv : ¬ a.valid := by unfold Mo.valid; omega
    simp -implicitDefEqProofs [AF45, Nat.add_assoc, mono, Mo.cells, -agg_mono, -zero_cells, hv, p0]
  · skip
    by_cases q0 : 65535 < a.x0
    · have hv : ¬ a.valid := by unfold Mo.valid; omega
      simp -implicitDefEqProofs [AF45, Nat.add_assoc, mono, Mo.cells, -agg_mono, -zero_cells, hv, p0, q0]
    · skip
      by_cases p1 : a.x1 < 0
      · have hv : ¬ a.valid := by unfold Mo.valid; omega
        simp -implicitDefEqProofs [AF45, Nat.add_assoc, mono, Mo.cells, -agg_mono, -zero_cells, hv, p0, q0, p1]
      · skip
        by_cases q1 : 65535 < a.x1
        · have hv : ¬ a.valid := by unfold Mo.valid; omega
          simp -implicitDefEqProofs [AF45, Nat.add_assoc, mono, Mo.cells, -agg_mono, -zero_cells, hv, p0, q0, p1, q1]
        · skip
          by_cases p2 : a.x2 < 0
          · have hv : ¬ a.valid := by unfold Mo.valid; omega
            simp -implicitDefEqProofs [AF45, Nat.add_assoc, mono, Mo.cells, -agg_mono, -zero_cells, hv, p0, q0, p1, q1, p2]
          · skip
            by_cases q2 : 65535 < a.x2
            · have hv : ¬ a.valid := by unfold Mo.valid; omega
              simp -implicitDefEqProofs [AF45, Nat.add_assoc, mono, Mo.cells, -agg_mono, -zero_cells, hv, p0, q0, p1, q1, p2, q2]
            · skip
              by_cases p3 : a.x3 < 0
              · have hv : ¬ a.valid := by unfold Mo.valid; omega
                simp -implicitDefEqProofs [AF45, Nat.add_assoc, mono, Mo.cells, -agg_mono, -zero_cells, hv, p0, q0, p1, q1, p2, q2, p3]
              · skip
                by_cases q3 : 65535 < a.x3
                · have hv : ¬ a.valid := by unfold Mo.valid; omega
                  simp -implicitDefEqProofs [AF45, Nat.add_assoc, mono, Mo.cells, -agg_mono, -zero_cells, hv, p0, q0, p1, q1, p2, q2, p3, q3]
                · skip
                  by_cases p4 : a.x4 < 0
                  · have hv : ¬ a.valid := by unfold Mo.valid; omega
                    simp -implicitDefEqProofs [AF45, Nat.add_assoc, mono, Mo.cells, -agg_mono, -zero_cells, hv, p0, q0, p1, q1, p2, q2, p3, q3, p4]
                  · skip
                    by_cases q4 : 65535 < a.x4
                    · have hv : ¬ a.valid := by unfold Mo.valid; omega
                      simp -implicitDefEqProofs [AF45, Nat.add_assoc, mono, Mo.cells, -agg_mono, -zero_cells, hv, p0, q0, p1, q1, p2, q2, p3, q3, p4, q4]
                    · skip
                      by_cases p5 : a.x5 < 0
                      · have hv : ¬ a.valid := by unfold Mo.valid; omega
                        simp -implicitDefEqProofs [AF45, Nat.add_assoc, mono, Mo.cells, -agg_mono, -zero_cells, hv, p0, q0, p1, q1, p2, q2, p3, q3, p4, q4, p5]
                      · skip
                        by_cases q5 : 65535 < a.x5
                        · have hv : ¬ a.valid := by unfold Mo.valid; omega
                          simp -implicitDefEqProofs [AF45, Nat.add_assoc, mono, Mo.cells, -agg_mono, -zero_cells, hv, p0, q0, p1, q1, p2, q2, p3, q3, p4, q4, p5, q5]
                        · skip
                          by_cases p6 : a.x6 < 0
                          · have hv : ¬ a.valid := by unfold Mo.valid; omega
                            simp -implicitDefEqProofs [AF45, Nat.add_assoc, mono, Mo.cells, -agg_mono, -zero_cells, hv, p0, q0, p1, q1, p2, q2, p3, q3, p4, q4, p5, q5, p6]
                          · skip
                            by_cases q6 : 65535 < a.x6
                            · have hv : ¬ a.valid := by unfold Mo.valid; omega
                              simp -implicitDefEqProofs [AF45, Nat.add_assoc, mono, Mo.cells, -agg_mono, -zero_cells, hv, p0, q0, p1, q1, p2, q2, p3, q3, p4, q4, p5, q5, p6, q6]
                            · skip
                              by_cases p7 : a.x7 < 0
                              · have hv : ¬ a.valid := by unfold Mo.valid; omega
                                simp -implicitDefEqProofs [AF45, Nat.add_assoc, mono, Mo.cells, -agg_mono, -zero_cells, hv, p0, q0, p1, q1, p2, q2, p3, q3, p4, q4, p5, q5, p6, q6, p7]
                              · skip
                                by_cases q7 : 65535 < a.x7
                                · have hv : ¬ a.valid := by unfold Mo.valid; omega
                                  simp -implicitDefEqProofs [AF45, Nat.add_assoc, mono, Mo.cells, -agg_mono, -zero_cells, hv, p0, q0, p1, q1, p2, q2, p3, q3, p4, q4, p5, q5, p6, q6, p7, q7]
                                · skip
                                  have hv : a.valid := by unfold Mo.valid; omega
                                  simp -implicitDefEqProofs [AF45, Nat.add_assoc, mono, Mo.cells, -agg_mono, -zero_cells, hv, p0, q0, p1, q1, p2, q2, p3, q3, p4, q4, p5, q5, p6, q6, p7, q7]
end Go.Mach.Ytl
set_option linter.unusedSimpArgs false
set_option linter.unusedVariables false
set_option maxRecDepth 100000
namespace Go.Mach.Ytl
open Go.Mach
attribute [local simp] part_false part_true stO_some wrap_int wrap_byte binA ibin
def Mo.le (a b : Mo) : Prop := a.x0 ≤ b.x0 ∧ a.x1 ≤ b.x1 ∧ a.x2 ≤ b.x2 ∧ a.x3 ≤ b.x3 ∧ a.x4 ≤ b.x4 ∧ a.x5 ≤ b.x5 ∧ a.x6 ≤ b.x6 ∧ a.x7 ≤ b.x7
instance {a b : Mo} : Decidable (Mo.le a b) := by unfold Mo.le; infer_instance
def Mo.cmp (a b : Mo) : Int := if a.x0 < b.x0 then -1 else if b.x0 < a.x0 then 1 else if a.x1 < b.x1 then -1 else if b.x1 < a.x1 then 1 else if a.x2 < b.x2 then -1 else if b.x2 < a.x2 then 1 else if a.x3 < b.x3 then -1 else if b.x3 < a.x3 then 1 else if a.x4 < b.x4 then -1 else if b.x4 < a.x4 then 1 else if a.x5 < b.x5 then -1 else if b.x5 < a.x5 then 1 else if a.x6 < b.x6 then -1 else if b.x6 < a.x6 then 1 else if a.x7 < b.x7 then -1 else if b.x7 < a.x7 then 1 else 0
theorem call_38 {a b : Mo} {n : Nat} {H : Heap} : evalCall tab (n + 12) 47 [mono a, mono b] H = some (mono (Mo.map2 imax a b), H) := by
  rw [call_enter tab_38 (by simp [AF38]) (.inr (by simp))]
  simp -implicitDefEqProofs [AF38, mono, Mo.cells, Nat.add_assoc, -agg_mono, -zero_cells, iaddrA, Mo.map2, imax, mmA, mm2]
theorem call_34 {a b : Mo} {n : Nat} {H : Heap} : evalCall tab (n + 12) 84 [mono a, mono b] H = some (.bool (decide (Mo.le a b)), H) := by
  rw [call_enter tab_34 (by simp [AF34]) (.inr (by simp))]
  by_cases p0 : b.x0 < a.x0
  · have hv : ¬ Mo.le a b := by unfold Mo.le; omega
    simp -implicitDefEqProofs [AF34, mono, Mo.cells, Nat.add_assoc, -agg_mono, -zero_cells, iaddrA, hv, p0]
  · skip
    by_cases p1 : b.x1 < a.x1
    · have hv : ¬ Mo.le a b := by unfold Mo.le; omega
      simp -implicitDefEqProofs [AF34, mono, Mo.cells, Nat.add_assoc, -agg_mono, -zero_cells, iaddrA, hv, p0, p1]
    · skip
      by_cases p2 : b.x2 < a.x2
      · have hv : ¬ Mo.le a b := by unfold Mo.le; omega
        simp -implicitDefEqProofs [AF34, mono, Mo.cells, Nat.add_assoc, -agg_mono, -zero_cells, iaddrA, hv, p0, p1, p2]
      · skip
        by_cases p3 : b.x3 < a.x3
        · have hv : ¬ Mo.le a b := by unfold Mo.le; omega
          simp -implicitDefEqProofs [AF34, mono, Mo.cells, Nat.add_assoc, -agg_mono, -zero_cells, iaddrA, hv, p0, p1, p2, p3]
        · skip
          by_cases p4 : b.x4 < a.x4
          · have hv : ¬ Mo.le a b := by unfold Mo.le; omega
            simp -implicitDefEqProofs [AF34, mono, Mo.cells, Nat.add_assoc, -agg_mono, -zero_cells, iaddrA, hv, p0, p1, p2, p3, p4]
          · skip
            by_cases p5 : b.x5 < a.x5
            · have hv : ¬ Mo.le a b := by unfold Mo.le; omega
              simp -implicitDefEqProofs [AF34, mono, Mo.cells, Nat.add_assoc, -agg_mono, -zero_cells, iaddrA, hv, p0, p1, p2, p3, p4, p5]
            · skip
              by_cases p6 : b.x6 < a.x6
              · have hv : ¬ Mo.le a b := by unfold Mo.le; omega
                simp -implicitDefEqProofs [AF34, mono, Mo.cells, Nat.add_assoc, -agg_mono, -zero_cells, iaddrA, hv, p0, p1, p2, p3, p4, p5, p6]
              · skip
                by_cases p7 : b.x7 < a.x7
                · have hv : ¬ Mo.le a b := by unfold Mo.le; omega
                  simp -implicitDefEqProofs [AF34, mono, Mo.cells, Nat.add_assoc, -agg_mono, -zero_cells, iaddrA, hv, p0, p1, p2, p3, p4, p5, p6, p7]
                · skip
                  have hv : Mo.le a b := by unfold Mo.le; omega
                  simp -implicitDefEqProofs [AF34, mono, Mo.cells, Nat.add_assoc, -agg_mono, -zero_cells, iaddrA, hv, p0, p1, p2, p3, p4, p5, p6, p7]
theorem call_47 {a : Mo} {n : Nat} {H : Heap} : evalCall tab (n + 12) 61 [mono a] H = some (.bool (decide a.valid), H) := by
  rw [call_enter tab_47 (by simp [AF47]) (.inr (by simp))]
  by_cases p0 : a.x0 < 0
  · have hv : ¬ a.valid := by unfold Mo.valid; omega
    simp -implicitDefEqProofs [AF47, mono, Mo.cells, Nat.add_assoc, -agg_mono, -zero_cells, iaddrA, hv, p0]
  · skip
    by_cases q0 : 65535 < a.x0
    · have hv : ¬ a.valid := by unfold Mo.valid; omega
      simp -implicitDefEqProofs [AF47, mono, Mo.cells, Nat.add_assoc, -agg_mono, -zero_cells, iaddrA, hv, p0, q0]
    · skip
      by_cases p1 : a.x1 < 0
      · have hv : ¬ a.valid := by unfold Mo.valid; omega
        simp -implicitDefEqProofs [AF47, mono, Mo.cells, Nat.add_assoc, -agg_mono, -zero_cells, iaddrA, hv, p0, q0, p1]
      · skip
        by_cases q1 : 65535 < a.x1
        · have hv : ¬ a.valid := by unfold Mo.valid; omega
          simp -implicitDefEqProofs [AF47, mono, Mo.cells, Nat.add_assoc, -agg_mono, -zero_cells, iaddrA, hv, p0, q0, p1, q1]
        · skip
          by_cases p2 : a.x2 < 0
          · have hv : ¬ a.valid := by unfold Mo.valid; omega
            simp -implicitDefEqProofs [AF47, mono, Mo.cells, Nat.add_assoc, -agg_mono, -zero_cells, iaddrA, hv, p0, q0, p1, q1, p2]
          · skip
            by_cases q2 : 65535 < a.x2
            · have hv : ¬ a.valid := by unfold Mo.valid; omega
              simp -implicitDefEqProofs [AF47, mono, Mo.cells, Nat.add_assoc, -agg_mono, -zero_cells, iaddrA, hv, p0, q0, p1, q1, p2, q2]
            · skip
              by_cases p3 : a.x3 < 0
              · have hv : ¬ a.valid := by unfold Mo.valid; omega
                simp -implicitDefEqProofs [AF47, mono, Mo.cells, Nat.add_assoc, -agg_mono, -zero_cells, iaddrA, hv, p0, q0, p1, q1, p2, q2, p3]
              · skip
                by_cases q3 : 65535 < a.x3
                · have hv : ¬ a.valid := by unfold Mo.valid; omega
                  simp -implicitDefEqProofs [AF47, mono, Mo.cells, Nat.add_assoc, -agg_mono, -zero_cells, iaddrA, hv, p0, q0, p1, q1, p2, q2, p3, q3]
                · skip
                  by_cases p4 : a.x4 < 0
                  · have hv : ¬ a.valid := by unfold Mo.valid; omega
                    simp -implicitDefEqProofs [AF47, mono, Mo.cells, Nat.add_assoc, -agg_mono, -zero_cells, iaddrA, hv, p0, q0, p1, q1, p2, q2, p3, q3, p4]
                  · skip
                    by_cases q4 : 65535 < a.x4
                    · have hv : ¬ a.valid := by unfold Mo.valid; omega
                      simp -implicitDefEqProofs [AF47, mono, Mo.cells, Nat.add_assoc, -agg_mono, -zero_cells, iaddrA, hv, p0, q0, p1, q1, p2, q2, p3, q3, p4, q4]
                    · skip
                      by_cases p5 : a.x5 < 0
                      · have hv : ¬ a.valid := by unfold Mo.valid; omega
                        simp -implicitDefEqProofs [AF47, mono, Mo.cells, Nat.add_assoc, -agg_mono, -zero_cells, iaddrA, hv, p0, q0, p1, q1, p2, q2, p3, q3, p4, q4, p5]
                      · skip
                        by_cases q5 : 65535 < a.x5
                        · have hv : ¬ a.valid := by unfold Mo.valid; omega
                          simp -implicitDefEqProofs [AF47, mono, Mo.cells, Nat.add_assoc, -agg_mono, -zero_cells, iaddrA, hv, p0, q0, p1, q1, p2, q2, p3, q3, p4, q4, p5, q5]
                        · skip
                          by_cases p6 : a.x6 < 0
                          · have hv : ¬ a.valid := by unfold Mo.valid; omega
                            simp -implicitDefEqProofs [AF47, mono, Mo.cells, Nat.add_assoc, -agg_mono, -zero_cells, iaddrA, hv, p0, q0, p1, q1, p2, q2, p3, q3, p4, q4, p5, q5, p6]
                          · skip
                            by_cases q6 : 65535 < a.x6
                            · have hv : ¬ a.valid := by unfold Mo.valid; omega
                              simp -implicitDefEqProofs [AF47, mono, Mo.cells, Nat.add_assoc, -agg_mono, -zero_cells, iaddrA, hv, p0, q0, p1, q1, p2, q2, p3, q3, p4, q4, p5, q5, p6, q6]
                            · skip
                              by_cases p7 : a.x7 < 0
                              · have hv : ¬ a.valid := by unfold Mo.valid; omega
                                simp -implicitDefEqProofs [AF47, mono, Mo.cells, Nat.add_assoc, -agg_mono, -zero_cells, iaddrA, hv, p0, q0, p1, q1, p2, q2, p3, q3, p4, q4, p5, q5, p6, q6, p7]
                              · skip
                                by_cases q7 : 65535 < a.x7
                                · have hv : ¬ a.valid := by unfold Mo.valid; omega
                                  simp -implicitDefEqProofs [AF47, mono, Mo.cells, Nat.add_assoc, -agg_mono, -zero_cells, iaddrA, hv, p0, q0, p1, q1, p2, q2, p3, q3, p4, q4, p5, q5, p6, q6, p7, q7]
                                · skip
                                  have hv : a.valid := by unfold Mo.valid; omega
                                  simp -implicitDefEqProofs [AF47, mono, Mo.cells, Nat.add_assoc, -agg_mono, -zero_cells, iaddrA, hv, p0, q0, p1, q1, p2, q2, p3, q3, p4, q4, p5, q5, p6, q6, p7, q7]
theorem call_36 {a b : Mo} {n : Nat} {H : Heap} : evalCall tab (n + 12) 65 [mono a, mono b] H = some (.int .i64 (Mo.cmp a b), H) := by
  rw [call_enter tab_36 (by simp [AF36]) (.inr (by simp))]
  by_cases p0 : a.x0 < b.x0
  · simp -implicitDefEqProofs [AF36, mono, Mo.cells, Nat.add_assoc, -agg_mono, -zero_cells, iaddrA, Mo.cmp, p0]
  · skip
    by_cases q0 : b.x0 < a.x0
    · simp -implicitDefEqProofs [AF36, mono, Mo.cells, Nat.add_assoc, -agg_mono, -zero_cells, iaddrA, Mo.cmp, p0, q0]
    · skip
      by_cases p1 : a.x1 < b.x1
      · simp -implicitDefEqProofs [AF36, mono, Mo.cells, Nat.add_assoc, -agg_mono, -zero_cells, iaddrA, Mo.cmp, p0, q0, p1]
      · skip
        by_cases q1 : b.x1 < a.x1
        · simp -implicitDefEqProofs [AF36, mono, Mo.cells, Nat.add_assoc, -agg_mono, -zero_cells, iaddrA, Mo.cmp, p0, q0, p1, q1]
        · skip
          by_cases p2 : a.x2 < b.x2
          · simp -implicitDefEqProofs [AF36, mono, Mo.cells, Nat.add_assoc, -agg_mono, -zero_cells, iaddrA, Mo.cmp, p0, q0, p1, q1, p2]
          · skip
            by_cases q2 : b.x2 < a.x2
            · simp -implicitDefEqProofs [AF36, mono, Mo.cells, Nat.add_assoc, -agg_mono, -zero_cells, iaddrA, Mo.cmp, p0, q0, p1, q1, p2, q2]
            · skip
              by_cases p3 : a.x3 < b.x3
              · simp -implicitDefEqProofs [AF36, mono, Mo.cells, Nat.add_assoc, -agg_mono, -zero_cells, iaddrA, Mo.cmp, p0, q0, p1, q1, p2, q2, p3]
              · skip
                by_cases q3 : b.x3 < a.x3
                · simp -implicitDefEqProofs [AF36, mono, Mo.cells, Nat.add_assoc, -agg_mono, -zero_cells, iaddrA, Mo.cmp, p0, q0, p1, q1, p2, q2, p3, q3]
                · skip
                  by_cases p4 : a.x4 < b.x4
                  · simp -implicitDefEqProofs [AF36, mono, Mo.cells, Nat.add_assoc, -agg_mono, -zero_cells, iaddrA, Mo.cmp, p0, q0, p1, q1, p2, q2, p3, q3, p4]
                  · skip
                    by_cases q4 : b.x4 < a.x4
                    · simp -implicitDefEqProofs [AF36, mono, Mo.cells, Nat.add_assoc, -agg_mono, -zero_cells, iaddrA, Mo.cmp, p0, q0, p1, q1, p2, q2, p3, q3, p4, q4]
                    · skip
                      by_cases p5 : a.x5 < b.x5
                      · simp -implicitDefEqProofs [AF36, mono, Mo.cells, Nat.add_assoc, -agg_mono, -zero_cells, iaddrA, Mo.cmp, p0, q0, p1, q1, p2, q2, p3, q3, p4, q4, p5]
                      · skip
                        by_cases q5 : b.x5 < a.x5
                        · simp -implicitDefEqProofs [AF36, mono, Mo.cells, Nat.add_assoc, -agg_mono, -zero_cells, iaddrA, Mo.cmp, p0, q0, p1, q1, p2, q2, p3, q3, p4, q4, p5, q5]
                        · skip
                          by_cases p6 : a.x6 < b.x6
                          · simp -implicitDefEqProofs [AF36, mono, Mo.cells, Nat.add_assoc, -agg_mono, -zero_cells, iaddrA, Mo.cmp, p0, q0, p1, q1, p2, q2, p3, q3, p4, q4, p5, q5, p6]
                          · skip
                            by_cases q6 : b.x6 < a.x6
                            · simp -implicitDefEqProofs [AF36, mono, Mo.cells, Nat.add_assoc, -agg_mono, -zero_cells, iaddrA, Mo.cmp, p0, q0, p1, q1, p2, q2, p3, q3, p4, q4, p5, q5, p6, q6]
                            · skip
                              by_cases p7 : a.x7 < b.x7
                              · simp -implicitDefEqProofs [AF36, mono, Mo.cells, Nat.add_assoc, -agg_mono, -zero_cells, iaddrA, Mo.cmp, p0, q0, p1, q1, p2, q2, p3, q3, p4, q4, p5, q5, p6, q6, p7]
                              · skip
                                by_cases q7 : b.x7 < a.x7
                                · simp -implicitDefEqProofs [AF36, mono, Mo.cells, Nat.add_assoc, -agg_mono, -zero_cells, iaddrA, Mo.cmp, p0, q0, p1, q1, p2, q2, p3, q3, p4, q4, p5, q5, p6, q6, p7, q7]
                                · skip
                                  simp -implicitDefEqProofs [AF36, mono, Mo.cells, Nat.add_assoc, -agg_mono, -zero_cells, iaddrA, Mo.cmp, p0, q0, p1, q1, p2, q2, p3, q3, p4, q4, p5, q5, p6, q6, p7, q7]
theorem call_123 {x : Int} {n : Nat} {H : Heap} : evalCall tab (n + 1) 91 [.int .i64 x] H = some (.bool false, H) := by
  rw [call_enter tab_123 (by simp [AF123]) (.inr (by simp))]
  simp -implicitDefEqProofs [AF123]
theorem call_107 {x y : Int} {n : Nat} {H : Heap} : evalCall tab (n + 2) 83 [.int .i64 x, .int .i64 y] H = some (.int .i64 (if x < y then -1 else if y < x then 1 else 0), H) := by
  rw [call_enter tab_107 (by simp [AF107]) (.inr (by simp))]
  by_cases h : x < y
  · simp -implicitDefEqProofs [AF107, call_123, h]
  · by_cases h2 : y < x
    · simp -implicitDefEqProofs [AF107, call_123, h, h2]
    · simp -implicitDefEqProofs [AF107, call_123, h, h2]
theorem call_82 {a b : Mo} {i j : Nat} {n : Nat} {H : Heap} (ha : H.obj i = .cells a.cells none) (hb : H.obj j = .cells b.cells none) : evalCall tab (n + 14) 60 [.sl i 0 8 8 true 1, .sl j 0 8 8 true 1] H = some (.int .i64 (Mo.cmp a b), H) := by
  rw [call_enter tab_82 (by simp [AF82]) (.inl rfl)]
  by_cases p0 : a.x0 < b.x0
  · simp -implicitDefEqProofs [AF82, mono, Mo.cells, Nat.add_assoc, -agg_mono, -zero_cells, iaddrA, Mo.cmp, call_107, ha, hb, p0]
  · skip
    by_cases q0 : b.x0 < a.x0
    · simp -implicitDefEqProofs [AF82, mono, Mo.cells, Nat.add_assoc, -agg_mono, -zero_cells, iaddrA, Mo.cmp, call_107, ha, hb, p0, q0]
    · skip
      by_cases p1 : a.x1 < b.x1
      · simp -implicitDefEqProofs [AF82, mono, Mo.cells, Nat.add_assoc, -agg_mono, -zero_cells, iaddrA, Mo.cmp, call_107, ha, hb, p0, q0, p1]
      · skip
        by_cases q1 : b.x1 < a.x1
        · simp -implicitDefEqProofs [AF82, mono, Mo.cells, Nat.add_assoc, -agg_mono, -zero_cells, iaddrA, Mo.cmp, call_107, ha, hb, p0, q0, p1, q1]
        · skip
          by_cases p2 : a.x2 < b.x2
          · simp -implicitDefEqProofs [AF82, mono, Mo.cells, Nat.add_assoc, -agg_mono, -zero_cells, iaddrA, Mo.cmp, call_107, ha, hb, p0, q0, p1, q1, p2]
          · skip
            by_cases q2 : b.x2 < a.x2
            · simp -implicitDefEqProofs [AF82, mono, Mo.cells, Nat.add_assoc, -agg_mono, -zero_cells, iaddrA, Mo.cmp, call_107, ha, hb, p0, q0, p1, q1, p2, q2]
            · skip
              by_cases p3 : a.x3 < b.x3
              · simp -implicitDefEqProofs [AF82, mono, Mo.cells, Nat.add_assoc, -agg_mono, -zero_cells, iaddrA, Mo.cmp, call_107, ha, hb, p0, q0, p1, q1, p2, q2, p3]
              · skip
                by_cases q3 : b.x3 < a.x3
                · simp -implicitDefEqProofs [AF82, mono, Mo.cells, Nat.add_assoc, -agg_mono, -zero_cells, iaddrA, Mo.cmp, call_107, ha, hb, p0, q0, p1, q1, p2, q2, p3, q3]
                · skip
                  by_cases p4 : a.x4 < b.x4
                  · simp -implicitDefEqProofs [AF82, mono, Mo.cells, Nat.add_assoc, -agg_mono, -zero_cells, iaddrA, Mo.cmp, call_107, ha, hb, p0, q0, p1, q1, p2, q2, p3, q3, p4]
                  · skip
                    by_cases q4 : b.x4 < a.x4
                    · simp -implicitDefEqProofs [AF82, mono, Mo.cells, Nat.add_assoc, -agg_mono, -zero_cells, iaddrA, Mo.cmp, call_107, ha, hb, p0, q0, p1, q1, p2, q2, p3, q3, p4, q4]
                    · skip
                      by_cases p5 : a.x5 < b.x5
                      · simp -implicitDefEqProofs [AF82, mono, Mo.cells, Nat.add_assoc, -agg_mono, -zero_cells, iaddrA, Mo.cmp, call_107, ha, hb, p0, q0, p1, q1, p2, q2, p3, q3, p4, q4, p5]
                      · skip
                        by_cases q5 : b.x5 < a.x5
                        · simp -implicitDefEqProofs [AF82, mono, Mo.cells, Nat.add_assoc, -agg_mono, -zero_cells, iaddrA, Mo.cmp, call_107, ha, hb, p0, q0, p1, q1, p2, q2, p3, q3, p4, q4, p5, q5]
                        · skip
                          by_cases p6 : a.x6 < b.x6
                          · simp -implicitDefEqProofs [AF82, mono, Mo.cells, Nat.add_assoc, -agg_mono, -zero_cells, iaddrA, Mo.cmp, call_107, ha, hb, p0, q0, p1, q1, p2, q2, p3, q3, p4, q4, p5, q5, p6]
                          · skip
                            by_cases q6 : b.x6 < a.x6
                            · simp -implicitDefEqProofs [AF82, mono, Mo.cells, Nat.add_assoc, -agg_mono, -zero_cells, iaddrA, Mo.cmp, call_107, ha, hb, p0, q0, p1, q1, p2, q2, p3, q3, p4, q4, p5, q5, p6, q6]
                            · skip
                              by_cases p7 : a.x7 < b.x7
                              · simp -implicitDefEqProofs [AF82, mono, Mo.cells, Nat.add_assoc, -agg_mono, -zero_cells, iaddrA, Mo.cmp, call_107, ha, hb, p0, q0, p1, q1, p2, q2, p3, q3, p4, q4, p5, q5, p6, q6, p7]
                              · skip
                                by_cases q7 : b.x7 < a.x7
                                · simp -implicitDefEqProofs [AF82, mono, Mo.cells, Nat.add_assoc, -agg_mono, -zero_cells, iaddrA, Mo.cmp, call_107, ha, hb, p0, q0, p1, q1, p2, q2, p3, q3, p4, q4, p5, q5, p6, q6, p7, q7]
                                · skip
                                  simp -implicitDefEqProofs [AF82, mono, Mo.cells, Nat.add_assoc, -agg_mono, -zero_cells, iaddrA, Mo.cmp, call_107, ha, hb, p0, q0, p1, q1, p2, q2, p3, q3, p4, q4, p5, q5, p6, q6, p7, q7]
theorem call_35 {a b : Mo} {n : Nat} {H : Heap} : evalCall tab (n + 16) 34 [mono a, mono b] H = some (.int .i64 (Mo.cmp a b), H) := by
  rw [call_enter tab_35 (by simp [AF35]) (.inr (by simp))]
  have h : evalCall tab (n + 15) 60 [.sl H.next 0 8 8 true 1, .sl (H.next + 1) 0 8 8 true 1] ((H.begin.new (.cells a.cells none)).new (.cells b.cells none)) = _ := call_82 (n := n + 1) (a := a) (b := b) (by simp) (by simp)
  simp -implicitDefEqProofs [AF35, Nat.add_assoc, slcA, bnds, bnd, h]
def raw (x : Mo) : AV := .agg [.int .u16 x.x0, .int .u16 x.x1, .int .u16 x.x2, .int .u16 x.x3, .int .u16 x.x4, .int .u16 x.x5, .int .u16 x.x6, .int .u16 x.x7]
end Go.Mach.Ytl
set_option linter.unusedSimpArgs false
set_option linter.unusedVariables false
set_option maxRecDepth 100000
namespace Go.Mach.Ytl
open Go.Mach
attribute [local simp] part_false part_true stO_some wrap_int wrap_byte binA ibin
def orB (v w : Int) : Int := IntKind.u8.wrap (BitVec.ofInt IntKind.u8.bits v ||| BitVec.ofInt IntKind.u8.bits w).toNat
def L43 : ACode := match AF43.body with
  | .seq _ (.seq _ (.seq (.seq _ (.block _ (.loop c))) _)) => c
  | _ => .skip
def stO' (p : Prop) [Decidable p] (w v : Int) : Int := if p then orB v w else v
def stA' (p : Prop) [Decidable p] (w v : Int) : Int := if p then IntKind.u8.wrap (v + w) else v
def Mo.sup (a : Mo) : Int := (stO' (0 < a.x7) 128 (stO' (0 < a.x6) 64 (stO' (0 < a.x5) 32 (stO' (0 < a.x4) 16 (stO' (0 < a.x3) 8 (stO' (0 < a.x2) 4 (stO' (0 < a.x1) 2 (stO' (0 < a.x0) 1 (0 : Int)))))))))
def Mo.sup' (a : Mo) : Int := (stA' (0 < a.x7) 128 (stA' (0 < a.x6) 64 (stA' (0 < a.x5) 32 (stA' (0 < a.x4) 16 (stA' (0 < a.x3) 8 (stA' (0 < a.x2) 4 (stA' (0 < a.x1) 2 (stA' (0 < a.x0) 1 (0 : Int)))))))))
def L44 : ACode := match AF44.body with
  | .seq _ (.seq _ (.seq (.seq _ (.block _ (.loop c))) _)) => c
  | _ => .skip
theorem it_43_0 {call : CallFn} {n m : Nat} {s : List Itm} {k : KF} {σ : Sig} {H : Heap} {a : Mo} {v : Int} (h3 : σ 3 = .int .u8 v) (h6 : σ 6 = mono a) (h7 : σ 7 = .int .i64 0) :
    ∃ σ', lp call n L43 (m + 1) s k σ H = lp call n L43 m s k σ' H ∧ σ' 3 = .int .u8 (stO' (0 < a.x0) 1 v) ∧ σ' 6 = mono a ∧ σ' 7 = .int .i64 1 := by
  simp only [mono, Mo.cells] at h6
  by_cases h : 0 < a.x0
  · refine ⟨?w0, ?e0, ?a0, ?b0, ?c0⟩
    case e0 => simp -implicitDefEqProofs [L43, AF43, h3, h6, h7, h, -agg_mono, IntKind.bits]; rfl
    all_goals simp [h3, h6, h7, h, mono, Mo.cells, stO', orB, -agg_mono, IntKind.bits]
  · refine ⟨?w1, ?e1, ?a1, ?b1, ?c1⟩
    case e1 => simp -implicitDefEqProofs [L43, AF43, h3, h6, h7, h, -agg_mono, IntKind.bits]; rfl
    all_goals simp [h3, h6, h7, h, mono, Mo.cells, stO', orB, -agg_mono, IntKind.bits]
theorem call_85_0 {n : Nat} {H : Heap} : evalCall tab (n + 12) 67 [.int .i64 0] H = some (.int .u8 1, H) := by
  rw [call_enter tab_85 (by simp [AF85]) (.inr (by simp))]
  simp -implicitDefEqProofs [AF85, Nat.add_assoc]
theorem it_44_0 {n m j : Nat} {s : List Itm} {k : KF} {σ : Sig} {H : Heap} {a : Mo} {v : Int} (h1 : σ 1 = .ptr j 0) (hj : H.obj j = .cells a.cells none) (h3 : σ 3 = .int .u8 v) (h4 : σ 4 = .int .i64 0) :
    ∃ σ', lp (evalCall tab (n + 12)) (n + 12) L44 (m + 1) s k σ H = lp (evalCall tab (n + 12)) (n + 12) L44 m s k σ' H ∧ σ' 1 = .ptr j 0 ∧ σ' 3 = .int .u8 (stA' (0 < a.x0) 1 v) ∧ σ' 4 = .int .i64 1 := by
  simp only [Mo.cells] at hj
  by_cases h : 0 < a.x0
  · refine ⟨?w2, ?e2, ?a2, ?b2, ?c2⟩
    case e2 => simp -implicitDefEqProofs [L44, AF44, h3, h1, h4, hj, h, iaddrA, call_85_0]; rfl
    all_goals simp [h3, h1, h4, h, stA']
  · refine ⟨?w3, ?e3, ?a3, ?b3, ?c3⟩
    case e3 => simp -implicitDefEqProofs [L44, AF44, h3, h1, h4, hj, h, iaddrA, call_85_0]; rfl
    all_goals simp [h3, h1, h4, h, stA']
theorem it_43_1 {call : CallFn} {n m : Nat} {s : List Itm} {k : KF} {σ : Sig} {H : Heap} {a : Mo} {v : Int} (h3 : σ 3 = .int .u8 v) (h6 : σ 6 = mono a) (h7 : σ 7 = .int .i64 1) :
    ∃ σ', lp call n L43 (m + 1) s k σ H = lp call n L43 m s k σ' H ∧ σ' 3 = .int .u8 (stO' (0 < a.x1) 2 v) ∧ σ' 6 = mono a ∧ σ' 7 = .int .i64 2 := by
  simp only [mono, Mo.cells] at h6
  by_cases h : 0 < a.x1
  · refine ⟨?w0, ?e0, ?a0, ?b0, ?c0⟩
    case e0 => simp -implicitDefEqProofs [L43, AF43, h3, h6, h7, h, -agg_mono, IntKind.bits]; rfl
    all_goals simp [h3, h6, h7, h, mono, Mo.cells, stO', orB, -agg_mono, IntKind.bits]
  · refine ⟨?w1, ?e1, ?a1, ?b1, ?c1⟩
    case e1 => simp -implicitDefEqProofs [L43, AF43, h3, h6, h7, h, -agg_mono, IntKind.bits]; rfl
    all_goals simp [h3, h6, h7, h, mono, Mo.cells, stO', orB, -agg_mono, IntKind.bits]
theorem call_85_1 {n : Nat} {H : Heap} : evalCall tab (n + 12) 67 [.int .i64 1] H = some (.int .u8 2, H) := by
  rw [call_enter tab_85 (by simp [AF85]) (.inr (by simp))]
  simp -implicitDefEqProofs [AF85, Nat.add_assoc]
theorem it_44_1 {n m j : Nat} {s : List Itm} {k : KF} {σ : Sig} {H : Heap} {a : Mo} {v : Int} (h1 : σ 1 = .ptr j 0) (hj : H.obj j = .cells a.cells none) (h3 : σ 3 = .int .u8 v) (h4 : σ 4 = .int .i64 1) :
    ∃ σ', lp (evalCall tab (n + 12)) (n + 12) L44 (m + 1) s k σ H = lp (evalCall tab (n + 12)) (n + 12) L44 m s k σ' H ∧ σ' 1 = .ptr j 0 ∧ σ' 3 = .int .u8 (stA' (0 < a.x1) 2 v) ∧ σ' 4 = .int .i64 2 := by
  simp only [Mo.cells] at hj
  by_cases h : 0 < a.x1
  · refine ⟨?w2, ?e2, ?a2, ?b2, ?c2⟩
    case e2 => simp -implicitDefEqProofs [L44, AF44, h3, h1, h4, hj, h, iaddrA, call_85_1]; rfl
    all_goals simp [h3, h1, h4, h, stA']
  · refine ⟨?w3, ?e3, ?a3, ?b3, ?c3⟩
    case e3 => simp -implicitDefEqProofs [L44, AF44, h3, h1, h4, hj, h, iaddrA, call_85_1]; rfl
    all_goals simp [h3, h1, h4, h, stA']
theorem it_43_2 {call : CallFn} {n m : Nat} {s : List Itm} {k : KF} {σ : Sig} {H : Heap} {a : Mo} {v : Int} (h3 : σ 3 = .int .u8 v) (h6 : σ 6 = mono a) (h7 : σ 7 = .int .i64 2) :
    ∃ σ', lp call n L43 (m + 1) s k σ H = lp call n L43 m s k σ' H ∧ σ' 3 = .int .u8 (stO' (0 < a.x2) 4 v) ∧ σ' 6 = mono a ∧ σ' 7 = .int .i64 3 := by
  simp only [mono, Mo.cells] at h6
  by_cases h : 0 < a.x2
  · refine ⟨?w0, ?e0, ?a0, ?b0, ?c0⟩
    case e0 => simp -implicitDefEqProofs [L43, AF43, h3, h6, h7, h, -agg_mono, IntKind.bits]; rfl
    all_goals simp [h3, h6, h7, h, mono, Mo.cells, stO', orB, -agg_mono, IntKind.bits]
  · refine ⟨?w1, ?e1, ?a1, ?b1, ?c1⟩
    case e1 => simp -implicitDefEqProofs [L43, AF43, h3, h6, h7, h, -agg_mono, IntKind.bits]; rfl
    all_goals simp [h3, h6, h7, h, mono, Mo.cells, stO', orB, -agg_mono, IntKind.bits]
theorem call_85_2 {n : Nat} {H : Heap} : evalCall tab (n + 12) 67 [.int .i64 2] H = some (.int .u8 4, H) := by
  rw [call_enter tab_85 (by simp [AF85]) (.inr (by simp))]
  simp -implicitDefEqProofs [AF85, Nat.add_assoc]
theorem it_44_2 {n m j : Nat} {s : List Itm} {k : KF} {σ : Sig} {H : Heap} {a : Mo} {v : Int} (h1 : σ 1 = .ptr j 0) (hj : H.obj j = .cells a.cells none) (h3 : σ 3 = .int .u8 v) (h4 : σ 4 = .int .i64 2) :
    ∃ σ', lp (evalCall tab (n + 12)) (n + 12) L44 (m + 1) s k σ H = lp (evalCall tab (n + 12)) (n + 12) L44 m s k σ' H ∧ σ' 1 = .ptr j 0 ∧ σ' 3 = .int .u8 (stA' (0 < a.x2) 4 v) ∧ σ' 4 = .int .i64 3 := by
  simp only [Mo.cells] at hj
  by_cases h : 0 < a.x2
  · refine ⟨?w2, ?e2, ?a2, ?b2, ?c2⟩
    case e2 => simp -implicitDefEqProofs [L44, AF44, h3, h1, h4, hj, h, iaddrA, call_85_2]; rfl
    all_goals simp [h3, h1, h4, h, stA']
  · refine ⟨?w3, ?e3, ?a3, ?b3, ?c3⟩
    case e3 => simp -implicitDefEqProofs [L44, AF44, h3, h1, h4, hj, h, iaddrA, call_85_2]; rfl
    all_goals simp [h3, h1, h4, h, stA']
theorem it_43_3 {call : CallFn} {n m : Nat} {s : List Itm} {k : KF} {σ : Sig} {H : Heap} {a : Mo} {v : Int} (h3 : σ 3 = .int .u8 v) (h6 : σ 6 = mono a) (h7 : σ 7 = .int .i64 3) :
    ∃ σ', lp call n L43 (m + 1) s k σ H = lp call n L43 m s k σ' H ∧ σ' 3 = .int .u8 (stO' (0 < a.x3) 8 v) ∧ σ' 6 = mono a ∧ σ' 7 = .int .i64 4 := by
  simp only [mono, Mo.cells] at h6
  by_cases h : 0 < a.x3
  · refine ⟨?w0, ?e0, ?a0, ?b0, ?c0⟩
    case e0 => simp -implicitDefEqProofs [L43, AF43, h3, h6, h7, h, -agg_mono, IntKind.bits]; rfl
    all_goals simp [h3, h6, h7, h, mono, Mo.cells, stO', orB, -agg_mono, IntKind.bits]
  · refine ⟨?w1, ?e1, ?a1, ?b1, ?c1⟩
    case e1 => simp -implicitDefEqProofs [L43, AF43, h3, h6, h7, h, -agg_mono, IntKind.bits]; rfl
    all_goals simp [h3, h6, h7, h, mono, Mo.cells, stO', orB, -agg_mono, IntKind.bits]
theorem call_85_3 {n : Nat} {H : Heap} : evalCall tab (n + 12) 67 [.int .i64 3] H = some (.int .u8 8, H) := by
  rw [call_enter tab_85 (by simp [AF85]) (.inr (by simp))]
  simp -implicitDefEqProofs [AF85, Nat.add_assoc]
theorem it_44_3 {n m j : Nat} {s : List Itm} {k : KF} {σ : Sig} {H : Heap} {a : Mo} {v : Int} (h1 : σ 1 = .ptr j 0) (hj : H.obj j = .cells a.cells none) (h3 : σ 3 = .int .u8 v) (h4 : σ 4 = .int .i64 3) :
    ∃ σ', lp (evalCall tab (n + 12)) (n + 12) L44 (m + 1) s k σ H = lp (evalCall tab (n + 12)) (n + 12) L44 m s k σ' H ∧ σ' 1 = .ptr j 0 ∧ σ' 3 = .int .u8 (stA' (0 < a.x3) 8 v) ∧ σ' 4 = .int .i64 4 := by
  simp only [Mo.cells] at hj
  by_cases h : 0 < a.x3
  · refine ⟨?w2, ?e2, ?a2, ?b2, ?c2⟩
    case e2 => simp -implicitDefEqProofs [L44, AF44, h3, h1, h4, hj, h, iaddrA, call_85_3]; rfl
    all_goals simp [h3, h1, h4, h, stA']
  · refine ⟨?w3, ?e3, ?a3, ?b3, ?c3⟩
    case e3 => simp -implicitDefEqProofs [L44, AF44, h3, h1, h4, hj, h, iaddrA, call_85_3]; rfl
    all_goals simp [h3, h1, h4, h, stA']
theorem it_43_4 {call : CallFn} {n m : Nat} {s : List Itm} {k : KF} {σ : Sig} {H : Heap} {a : Mo} {v : Int} (h3 : σ 3 = .int .u8 v) (h6 : σ 6 = mono a) (h7 : σ 7 = .int .i64 4) :
    ∃ σ', lp call n L43 (m + 1) s k σ H = lp call n L43 m s k σ' H ∧ σ' 3 = .int .u8 (stO' (0 < a.x4) 16 v) ∧ σ' 6 = mono a ∧ σ' 7 = .int .i64 5 := by
  simp only [mono, Mo.cells] at h6
  by_cases h : 0 < a.x4
  · refine ⟨?w0, ?e0, ?a0, ?b0, ?c0⟩
    case e0 => simp -implicitDefEqProofs [L43, AF43, h3, h6, h7, h, -agg_mono, IntKind.bits]; rfl
    all_goals simp [h3, h6, h7, h, mono, Mo.cells, stO', orB, -agg_mono, IntKind.bits]
  · refine ⟨?w1, ?e1, ?a1, ?b1, ?c1⟩
    case e1 => simp -implicitDefEqProofs [L43, AF43, h3, h6, h7, h, -agg_mono, IntKind.bits]; rfl
    all_goals simp [h3, h6, h7, h, mono, Mo.cells, stO', orB, -agg_mono, IntKind.bits]
theorem call_85_4 {n : Nat} {H : Heap} : evalCall tab (n + 12) 67 [.int .i64 4] H = some (.int .u8 16, H) := by
  rw [call_enter tab_85 (by simp [AF85]) (.inr (by simp))]
  simp -implicitDefEqProofs [AF85, Nat.add_assoc]
theorem it_44_4 {n m j : Nat} {s : List Itm} {k : KF} {σ : Sig} {H : Heap} {a : Mo} {v : Int} (h1 : σ 1 = .ptr j 0) (hj : H.obj j = .cells a.cells none) (h3 : σ 3 = .int .u8 v) (h4 : σ 4 = .int .i64 4) :
    ∃ σ', lp (evalCall tab (n + 12)) (n + 12) L44 (m + 1) s k σ H = lp (evalCall tab (n + 12)) (n + 12) L44 m s k σ' H ∧ σ' 1 = .ptr j 0 ∧ σ' 3 = .int .u8 (stA' (0 < a.x4) 16 v) ∧ σ' 4 = .int .i64 5 := by
  simp only [Mo.cells] at hj
  by_cases h : 0 < a.x4
  · refine ⟨?w2, ?e2, ?a2, ?b2, ?c2⟩
    case e2 => simp -implicitDefEqProofs [L44, AF44, h3, h1, h4, hj, h, iaddrA, call_85_4]; rfl
    all_goals simp [h3, h1, h4, h, stA']
  · refine ⟨?w3, ?e3, ?a3, ?b3, ?c3⟩
    case e3 => simp -implicitDefEqProofs [L44, AF44, h3, h1, h4, hj, h, iaddrA, call_85_4]; rfl
    all_goals simp [h3, h1, h4, h, stA']
theorem it_43_5 {call : CallFn} {n m : Nat} {s : List Itm} {k : KF} {σ : Sig} {H : Heap} {a : Mo} {v : Int} (h3 : σ 3 = .int .u8 v) (h6 : σ 6 = mono a) (h7 : σ 7 = .int .i64 5) :
    ∃ σ', lp call n L43 (m + 1) s k σ H = lp call n L43 m s k σ' H ∧ σ' 3 = .int .u8 (stO' (0 < a.x5) 32 v) ∧ σ' 6 = mono a ∧ σ' 7 = .int .i64 6 := by
  simp only [mono, Mo.cells] at h6
  by_cases h : 0 < a.x5
  · refine ⟨?w0, ?e0, ?a0, ?b0, ?c0⟩
    case e0 => simp -implicitDefEqProofs [L43, AF43, h3, h6, h7, h, -agg_mono, IntKind.bits]; rfl
    all_goals simp [h3, h6, h7, h, mono, Mo.cells, stO', orB, -agg_mono, IntKind.bits]
  · refine ⟨?w1, ?e1, ?a1, ?b1, ?c1⟩
    case e1 => simp -implicitDefEqProofs [L43, AF43, h3, h6, h7, h, -agg_mono, IntKind.bits]; rfl
    all_goals simp [h3, h6, h7, h, mono, Mo.cells, stO', orB, -agg_mono, IntKind.bits]
theorem call_85_5 {n : Nat} {H : Heap} : evalCall tab (n + 12) 67 [.int .i64 5] H = some (.int .u8 32, H) := by
  rw [call_enter tab_85 (by simp [AF85]) (.inr (by simp))]
  simp -implicitDefEqProofs [AF85, Nat.add_assoc]
theorem it_44_5 {n m j : Nat} {s : List Itm} {k : KF} {σ : Sig} {H : Heap} {a : Mo} {v : Int} (h1 : σ 1 = .ptr j 0) (hj : H.obj j = .cells a.cells none) (h3 : σ 3 = .int .u8 v) (h4 : σ 4 = .int .i64 5) :
    ∃ σ', lp (evalCall tab (n + 12)) (n + 12) L44 (m + 1) s k σ H = lp (evalCall tab (n + 12)) (n + 12) L44 m s k σ' H ∧ σ' 1 = .ptr j 0 ∧ σ' 3 = .int .u8 (stA' (0 < a.x5) 32 v) ∧ σ' 4 = .int .i64 6 := by
  simp only [Mo.cells] at hj
  by_cases h : 0 < a.x5
  · refine ⟨?w2, ?e2, ?a2, ?b2, ?c2⟩
    case e2 => simp -implicitDefEqProofs [L44, AF44, h3, h1, h4, hj, h, iaddrA, call_85_5]; rfl
    all_goals simp [h3, h1, h4, h, stA']
  · refine ⟨?w3, ?e3, ?a3, ?b3, ?c3⟩
    case e3 => simp -implicitDefEqProofs [L44, AF44, h3, h1, h4, hj, h, iaddrA, call_85_5]; rfl
    all_goals simp [h3, h1, h4, h, stA']
theorem it_43_6 {call : CallFn} {n m : Nat} {s : List Itm} {k : KF} {σ : Sig} {H : Heap} {a : Mo} {v : Int} (h3 : σ 3 = .int .u8 v) (h6 : σ 6 = mono a) (h7 : σ 7 = .int .i64 6) :
    ∃ σ', lp call n L43 (m + 1) s k σ H = lp call n L43 m s k σ' H ∧ σ' 3 = .int .u8 (stO' (0 < a.x6) 64 v) ∧ σ' 6 = mono a ∧ σ' 7 = .int .i64 7 := by
  simp only [mono, Mo.cells] at h6
  by_cases h : 0 < a.x6
  · refine ⟨?w0, ?e0, ?a0, ?b0, ?c0⟩
    case e0 => simp -implicitDefEqProofs [L43, AF43, h3, h6, h7, h, -agg_mono, IntKind.bits]; rfl
    all_goals simp [h3, h6, h7, h, mono, Mo.cells, stO', orB, -agg_mono, IntKind.bits]
  · refine ⟨?w1, ?e1, ?a1, ?b1, ?c1⟩
    case e1 => simp -implicitDefEqProofs [L43, AF43, h3, h6, h7, h, -agg_mono, IntKind.bits]; rfl
    all_goals simp [h3, h6, h7, h, mono, Mo.cells, stO', orB, -agg_mono, IntKind.bits]
theorem call_85_6 {n : Nat} {H : Heap} : evalCall tab (n + 12) 67 [.int .i64 6] H = some (.int .u8 64, H) := by
  rw [call_enter tab_85 (by simp [AF85]) (.inr (by simp))]
  simp -implicitDefEqProofs [AF85, Nat.add_assoc]
theorem it_44_6 {n m j : Nat} {s : List Itm} {k : KF} {σ : Sig} {H : Heap} {a : Mo} {v : Int} (h1 : σ 1 = .ptr j 0) (hj : H.obj j = .cells a.cells none) (h3 : σ 3 = .int .u8 v) (h4 : σ 4 = .int .i64 6) :
    ∃ σ', lp (evalCall tab (n + 12)) (n + 12) L44 (m + 1) s k σ H = lp (evalCall tab (n + 12)) (n + 12) L44 m s k σ' H ∧ σ' 1 = .ptr j 0 ∧ σ' 3 = .int .u8 (stA' (0 < a.x6) 64 v) ∧ σ' 4 = .int .i64 7 := by
  simp only [Mo.cells] at hj
  by_cases h : 0 < a.x6
  · refine ⟨?w2, ?e2, ?a2, ?b2, ?c2⟩
    case e2 => simp -implicitDefEqProofs [L44, AF44, h3, h1, h4, hj, h, iaddrA, call_85_6]; rfl
    all_goals simp [h3, h1, h4, h, stA']
  · refine ⟨?w3, ?e3, ?a3, ?b3, ?c3⟩
    case e3 => simp -implicitDefEqProofs [L44, AF44, h3, h1, h4, hj, h, iaddrA, call_85_6]; rfl
    all_goals simp [h3, h1, h4, h, stA']
theorem it_43_7 {call : CallFn} {n m : Nat} {s : List Itm} {k : KF} {σ : Sig} {H : Heap} {a : Mo} {v : Int} (h3 : σ 3 = .int .u8 v) (h6 : σ 6 = mono a) (h7 : σ 7 = .int .i64 7) :
    ∃ σ', lp call n L43 (m + 1) s k σ H = lp call n L43 m s k σ' H ∧ σ' 3 = .int .u8 (stO' (0 < a.x7) 128 v) ∧ σ' 6 = mono a ∧ σ' 7 = .int .i64 8 := by
  simp only [mono, Mo.cells] at h6
  by_cases h : 0 < a.x7
  · refine ⟨?w0, ?e0, ?a0, ?b0, ?c0⟩
    case e0 => simp -implicitDefEqProofs [L43, AF43, h3, h6, h7, h, -agg_mono, IntKind.bits]; rfl
    all_goals simp [h3, h6, h7, h, mono, Mo.cells, stO', orB, -agg_mono, IntKind.bits]
  · refine ⟨?w1, ?e1, ?a1, ?b1, ?c1⟩
    case e1 => simp -implicitDefEqProofs [L43, AF43, h3, h6, h7, h, -agg_mono, IntKind.bits]; rfl
    all_goals simp [h3, h6, h7, h, mono, Mo.cells, stO', orB, -agg_mono, IntKind.bits]
theorem call_85_7 {n : Nat} {H : Heap} : evalCall tab (n + 12) 67 [.int .i64 7] H = some (.int .u8 128, H) := by
  rw [call_enter tab_85 (by simp [AF85]) (.inr (by simp))]
  simp -implicitDefEqProofs [AF85, Nat.add_assoc]
theorem it_44_7 {n m j : Nat} {s : List Itm} {k : KF} {σ : Sig} {H : Heap} {a : Mo} {v : Int} (h1 : σ 1 = .ptr j 0) (hj : H.obj j = .cells a.cells none) (h3 : σ 3 = .int .u8 v) (h4 : σ 4 = .int .i64 7) :
    ∃ σ', lp (evalCall tab (n + 12)) (n + 12) L44 (m + 1) s k σ H = lp (evalCall tab (n + 12)) (n + 12) L44 m s k σ' H ∧ σ' 1 = .ptr j 0 ∧ σ' 3 = .int .u8 (stA' (0 < a.x7) 128 v) ∧ σ' 4 = .int .i64 8 := by
  simp only [Mo.cells] at hj
  by_cases h : 0 < a.x7
  · refine ⟨?w2, ?e2, ?a2, ?b2, ?c2⟩
    case e2 => simp -implicitDefEqProofs [L44, AF44, h3, h1, h4, hj, h, iaddrA, call_85_7]; rfl
    all_goals simp [h3, h1, h4, h, stA']
  · refine ⟨?w3, ?e3, ?a3, ?b3, ?c3⟩
    case e3 => simp -implicitDefEqProofs [L44, AF44, h3, h1, h4, hj, h, iaddrA, call_85_7]; rfl
    all_goals simp [h3, h1, h4, h, stA']
theorem call_43 {a : Mo} {n : Nat} {H : Heap} : evalCall tab (n + 12) 26 [mono a] H = some (.int .u8 a.sup, H) := by
  rw [call_enter tab_43 (by simp [AF43]) (.inr (by simp))]
  simp -implicitDefEqProofs [AF43, Nat.add_assoc, -lp_succ]
  generalize hs : upd (upd _ 6 _) 7 _ = σ
  have g3 : σ 3 = .int .u8 0 := by subst hs; simp
  have g6 : σ 6 = mono a := by subst hs; simp
  have g7 : σ 7 = .int .i64 0 := by subst hs; simp
  clear hs
  obtain ⟨σ0, e0, k03, k06, k07⟩ := it_43_0 (call := evalCall tab (n + 11)) (n := n + 11) (m := n + 10) (s := _) (k := _) (H := _) g3 g6 g7
  obtain ⟨σ1, e1, k13, k16, k17⟩ := it_43_1 (call := evalCall tab (n + 11)) (n := n + 11) (m := n + 9) (s := _) (k := _) (H := _) k03 k06 k07
  obtain ⟨σ2, e2, k23, k26, k27⟩ := it_43_2 (call := evalCall tab (n + 11)) (n := n + 11) (m := n + 8) (s := _) (k := _) (H := _) k13 k16 k17
  obtain ⟨σ3, e3, k33, k36, k37⟩ := it_43_3 (call := evalCall tab (n + 11)) (n := n + 11) (m := n + 7) (s := _) (k := _) (H := _) k23 k26 k27
  obtain ⟨σ4, e4, k43, k46, k47⟩ := it_43_4 (call := evalCall tab (n + 11)) (n := n + 11) (m := n + 6) (s := _) (k := _) (H := _) k33 k36 k37
  obtain ⟨σ5, e5, k53, k56, k57⟩ := it_43_5 (call := evalCall tab (n + 11)) (n := n + 11) (m := n + 5) (s := _) (k := _) (H := _) k43 k46 k47
  obtain ⟨σ6, e6, k63, k66, k67⟩ := it_43_6 (call := evalCall tab (n + 11)) (n := n + 11) (m := n + 4) (s := _) (k := _) (H := _) k53 k56 k57
  obtain ⟨σ7, e7, k73, k76, k77⟩ := it_43_7 (call := evalCall tab (n + 11)) (n := n + 11) (m := n + 3) (s := _) (k := _) (H := _) k63 k66 k67
  simp only [L43, AF43] at e0 e1 e2 e3 e4 e5 e6 e7
  rw [e0, e1, e2, e3, e4, e5, e6, e7]
  simp -implicitDefEqProofs [k73, k76, k77, Mo.sup]
theorem call_44 {a : Mo} {n : Nat} {H : Heap} : evalCall tab (n + 14) 41 [mono a] H = some (.int .u8 a.sup', H) := by
  rw [call_enter tab_44 (by simp [AF44]) (.inr (by simp))]
  simp -implicitDefEqProofs [AF44, Nat.add_assoc, -lp_succ]
  generalize hs : upd (upd _ 3 _) 4 _ = σ
  have g1 : σ 1 = .ptr H.next 0 := by subst hs; simp
  have g3 : σ 3 = .int .u8 0 := by subst hs; simp
  have g4 : σ 4 = .int .i64 0 := by subst hs; simp
  clear hs
  have hj : (H.begin.new (AObj.cells a.cells none)).obj H.next = .cells a.cells none := by simp
  obtain ⟨σ0, e0, k01, k03, k04⟩ := it_44_0 (n := n + 1) (m := n + 12) (s := _) (k := _) g1 hj g3 g4
  obtain ⟨σ1, e1, k11, k13, k14⟩ := it_44_1 (n := n + 1) (m := n + 11) (s := _) (k := _) k01 hj k03 k04
  obtain ⟨σ2, e2, k21, k23, k24⟩ := it_44_2 (n := n + 1) (m := n + 10) (s := _) (k := _) k11 hj k13 k14
  obtain ⟨σ3, e3, k31, k33, k34⟩ := it_44_3 (n := n + 1) (m := n + 9) (s := _) (k := _) k21 hj k23 k24
  obtain ⟨σ4, e4, k41, k43, k44⟩ := it_44_4 (n := n + 1) (m := n + 8) (s := _) (k := _) k31 hj k33 k34
  obtain ⟨σ5, e5, k51, k53, k54⟩ := it_44_5 (n := n + 1) (m := n + 7) (s := _) (k := _) k41 hj k43 k44
  obtain ⟨σ6, e6, k61, k63, k64⟩ := it_44_6 (n := n + 1) (m := n + 6) (s := _) (k := _) k51 hj k53 k54
  obtain ⟨σ7, e7, k71, k73, k74⟩ := it_44_7 (n := n + 1) (m := n + 5) (s := _) (k := _) k61 hj k63 k64
  simp only [L44, AF44] at e0 e1 e2 e3 e4 e5 e6 e7
  rw [e0, e1, e2, e3, e4, e5, e6, e7]
  simp -implicitDefEqProofs [k71, k73, k74, Mo.sup']
end Go.Mach.Ytl
