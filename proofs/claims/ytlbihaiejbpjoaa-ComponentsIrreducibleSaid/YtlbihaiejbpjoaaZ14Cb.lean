/-
  Pruned copy of the text Cb. By an AI agent.
-/
import Derived.Test.YtlbihaiejbpjoaaZ14Ca
set_option linter.unusedSimpArgs false
set_option linter.unusedVariables false
set_option maxRecDepth 100000
namespace Go.Mach.Ytl
open Go.Mach
attribute [local simp] part_false part_true stO_some wrap_int wrap_byte binA ibin
def Mo.le (a b : Mo) : Prop := a.x0 ≤ b.x0 ∧ a.x1 ≤ b.x1 ∧ a.x2 ≤ b.x2 ∧ a.x3 ≤ b.x3 ∧ a.x4 ≤ b.x4 ∧ a.x5 ≤ b.x5 ∧ a.x6 ≤ b.x6 ∧ a.x7 ≤ b.x7
instance {a b : Mo} : Decidable (Mo.le a b) := by unfold Mo.le; infer_instance
def Mo.cmp (a b : Mo) : Int := if a.x0 < b.x0 then -1 else if b.x0 < a.x0 then 1 else if a.x1 < b.x1 then -1 else if b.x1 < a.x1 then 1 else if a.x2 < b.x2 then -1 else if b.x2 < a.x2 then 1 else if a.x3 < b.x3 then -1 else if b.x3 < a.x3 then 1 else if a.x4 < b.x4 then -1 else if b.x4 < a.x4 then 1 else if a.x5 < b.x5 then -1 else if b.x5 < a.x5 then 1 else if a.x6 < b.x6 then -1 else if b.x6 < a.x6 then 1 else if a.x7 < b.x7 then -1 else if b.x7 < a.x7 then 1 else 0
theorem call_38 {a b : Mo} {n : Nat} {H : Heap} : evalCall tab (n + 12) 38 [mono a, mono b] H = some (mono (Mo.map2 imax a b), H) := by
  rw [call_enter tab_38 (by simp [AF38]) (.inr (by simp))]
  simp -implicitDefEqProofs [AF38, mono, Mo.cells, Nat.add_assoc, -agg_mono, -zero_cells, iaddrA, Mo.map2, imax, mmA, mm2]
theorem call_34 {a b : Mo} {n : Nat} {H : Heap} : evalCall tab (n + 12) 34 [mono a, mono b] H = some (.bool (decide (Mo.le a b)), H) := by
  rw [call_enter tab_34 (by simp [AF34]) (.inr (by simp))]
  by_cases p0 : b.x0 < a.x0
  · have hv : ¬ Mo.le a b := by unfold Mo.le; omega
    simp -implicitDefEqProofs [AF34, mono, Mo.cells, Nat.add_assoc, -agg_mono, -zero_cells, iaddrA, hv, p0]
  · skip
    by_cases p1 : b.x1 < a.x1
    · have hv : ¬ Mo.le a b := by unfold Mo.le; omega
      simp -implicitDefEqProofs [AF34, mono, Mo.cells, Nat.add_assoc, -agg_mono, -zero_cells, iaddrA, hv, p0, p1]
    · skip
      by_cases p2 : b.x2 < a.x2
      · have hv : ¬ Mo.le a b := by unfold Mo.le; omega
        simp -implicitDefEqProofs [AF34, mono, Mo.cells, Nat.add_assoc, -agg_mono, -zero_cells, iaddrA, hv, p0, p1, p2]
      · skip
        by_cases p3 : b.x3 < a.x3
        · have hv : ¬ Mo.le a b := by unfold Mo.le; omega
          simp -implicitDefEqProofs [AF34, mono, Mo.cells, Nat.add_assoc, -agg_mono, -zero_cells, iaddrA, hv, p0, p1, p2, p3]
        · skip
          by_cases p4 : b.x4 < a.x4
          · have hv : ¬ Mo.le a b := by unfold Mo.le; omega
            simp -implicitDefEqProofs [AF34, mono, Mo.cells, Nat.add_assoc, -agg_mono, -zero_cells, iaddrA, hv, p0, p1, p2, p3, p4]
          · skip
            by_cases p5 : b.x5 < a.x5
            · have hv : ¬ Mo.le a b := by unfold Mo.le; omega
              simp -implicitDefEqProofs [AF34, mono, Mo.cells, Nat.add_assoc, -agg_mono, -zero_cells, iaddrA, hv, p0, p1, p2, p3, p4, p5]
            · skip
              by_cases p6 : b.x6 < a.x6
              · have hv : ¬ Mo.le a b := by unfold Mo.le; omega
                simp -implicitDefEqProofs [AF34, mono, Mo.cells, Nat.add_assoc, -agg_mono, -zero_cells, iaddrA, hv, p0, p1, p2, p3, p4, p5, p6]
              · skip
                by_cases p7 : b.x7 < a.x7
                · have hv : ¬ Mo.le a b := by unfold Mo.le; omega
                  simp -implicitDefEqProofs [AF34, mono, Mo.cells, Nat.add_assoc, -agg_mono, -zero_cells, iaddrA, hv, p0, p1, p2, p3, p4, p5, p6, p7]
                · skip
                  have hv : Mo.le a b := by unfold Mo.le; omega
                  simp -implicitDefEqProofs [AF34, mono, Mo.cells, Nat.add_assoc, -agg_mono, -zero_cells, iaddrA, hv, p0, p1, p2, p3, p4, p5, p6, p7]
theorem call_47 {a : Mo} {n : Nat} {H : Heap} : evalCall tab (n + 12) 47 [mono a] H = some (.bool (decide a.valid), H) := by
  rw [call_enter tab_47 (by simp [AF47]) (.inr (by simp))]
  by_cases p0 : a.x0 < 0
  · have hv : ¬ a.valid := by unfold Mo.valid; omega
    simp -implicitDefEqProofs [AF47, mono, Mo.cells, Nat.add_assoc, -agg_mono, -zero_cells, iaddrA, hv, p0]
  · skip
    by_cases q0 : 65535 < a.x0
    · have hv : ¬ a.valid := by unfold Mo.valid; omega
      simp -implicitDefEqProofs [AF47, mono, Mo.cells, Nat.add_assoc, -agg_mono, -zero_cells, iaddrA, hv, p0, q0]
    · skip
      by_cases p1 : a.x1 < 0
      · have hv : ¬ a.valid := by unfold Mo.valid; omega
        simp -implicitDefEqProofs [AF47, mono, Mo.cells, Nat.add_assoc, -agg_mono, -zero_cells, iaddrA, hv, p0, q0, p1]
      · skip
        by_cases q1 : 65535 < a.x1
        · have hv : ¬ a.valid := by unfold Mo.valid; omega
          simp -implicitDefEqProofs [AF47, mono, Mo.cells, Nat.add_assoc, -agg_mono, -zero_cells, iaddrA, hv, p0, q0, p1, q1]
        · skip
          by_cases p2 : a.x2 < 0
          · have hv : ¬ a.valid := by unfold Mo.valid; omega
            simp -implicitDefEqProofs [AF47, mono, Mo.cells, Nat.add_assoc, -agg_mono, -zero_cells, iaddrA, hv, p0, q0, p1, q1, p2]
          · skip
            by_cases q2 : 65535 < a.x2
            · have hv : ¬ a.valid := by unfold Mo.valid; omega
              simp -implicitDefEqProofs [AF47, mono, Mo.cells, Nat.add_assoc, -agg_mono, -zero_cells, iaddrA, hv, p0, q0, p1, q1, p2, q2]
            · skip
              by_cases p3 : a.x3 < 0
              · have hv : ¬ a.valid := by unfold Mo.valid; omega
                simp -implicitDefEqProofs [AF47, mono, Mo.cells, Nat.add_assoc, -agg_mono, -zero_cells, iaddrA, hv, p0, q0, p1, q1, p2, q2, p3]
              · skip
                by_cases q3 : 65535 < a.x3
                · have hv : ¬ a.valid := by unfold Mo.valid; omega
                  simp -implicitDefEqProofs [AF47, mono, Mo.cells, Nat.add_assoc, -agg_mono, -zero_cells, iaddrA, hv, p0, q0, p1, q1, p2, q2, p3, q3]
                · skip
                  by_cases p4 : a.x4 < 0
                  · have hv : ¬ a.valid := by unfold Mo.valid; omega
                    simp -implicitDefEqProofs [AF47, mono, Mo.cells, Nat.add_assoc, -agg_mono, -zero_cells, iaddrA, hv, p0, q0, p1, q1, p2, q2, p3, q3, p4]
                  · skip
                    by_cases q4 : 65535 < a.x4
                    · have hv : ¬ a.valid := by unfold Mo.valid; omega
                      simp -implicitDefEqProofs [AF47, mono, Mo.cells, Nat.add_assoc, -agg_mono, -zero_cells, iaddrA, hv, p0, q0, p1, q1, p2, q2, p3, q3, p4, q4]
                    · skip
                      by_cases p5 : a.x5 < 0
                      · have hv : ¬ a.valid := by unfold Mo.valid; omega
                        simp -implicitDefEqProofs [AF47, mono, Mo.cells, Nat.add_assoc, -agg_mono, -zero_cells, iaddrA, hv, p0, q0, p1, q1, p2, q2, p3, q3, p4, q4, p5]
                      · skip
                        by_cases q5 : 65535 < a.x5
                        · have hv : ¬ a.valid := by unfold Mo.valid; omega
                          simp -implicitDefEqProofs [AF47, mono, Mo.cells, Nat.add_assoc, -agg_mono, -zero_cells, iaddrA, hv, p0, q0, p1, q1, p2, q2, p3, q3, p4, q4, p5, q5]
                        · skip
                          by_cases p6 : a.x6 < 0
                          · have hv : ¬ a.valid := by unfold Mo.valid; omega
                            simp -implicitDefEqProofs [AF47, mono, Mo.cells, Nat.add_assoc, -agg_mono, -zero_cells, iaddrA, hv, p0, q0, p1, q1, p2, q2, p3, q3, p4, q4, p5, q5, p6]
                          · skip
                            by_cases q6 : 65535 < a.x6
                            · have hv : ¬ a.valid := by unfold Mo.valid; omega
                              simp -implicitDefEqProofs [AF47, mono, Mo.cells, Nat.add_assoc, -agg_mono, -zero_cells, iaddrA, hv, p0, q0, p1, q1, p2, q2, p3, q3, p4, q4, p5, q5, p6, q6]
                            · skip
                              by_cases p7 : a.x7 < 0
                              · have hv : ¬ a.valid := by unfold Mo.valid; omega
                                simp -implicitDefEqProofs [AF47, mono, Mo.cells, Nat.add_assoc, -agg_mono, -zero_cells, iaddrA, hv, p0, q0, p1, q1, p2, q2, p3, q3, p4, q4, p5, q5, p6, q6, p7]
                              · skip
                                by_cases q7 : 65535 < a.x7
                                · have hv : ¬ a.valid := by unfold Mo.valid; omega
                                  simp -implicitDefEqProofs [AF47, mono, Mo.cells, Nat.add_assoc, -agg_mono, -zero_cells, iaddrA, hv, p0, q0, p1, q1, p2, q2, p3, q3, p4, q4, p5, q5, p6, q6, p7, q7]
                                · skip
                                  have hv : a.valid := by unfold Mo.valid; omega
                                  simp -implicitDefEqProofs [AF47, mono, Mo.cells, Nat.add_assoc, -agg_mono, -zero_cells, iaddrA, hv, p0, q0, p1, q1, p2, q2, p3, q3, p4, q4, p5, q5, p6, q6, p7, q7]
theorem call_36 {a b : Mo} {n : Nat} {H : Heap} : evalCall tab (n + 12) 36 [mono a, mono b] H = some (.int .i64 (Mo.cmp a b), H) := by
  rw [call_enter tab_36 (by simp [AF36]) (.inr (by simp))]
  by_cases p0 : a.x0 < b.x0
  · simp -implicitDefEqProofs [AF36, mono, Mo.cells, Nat.add_assoc, -agg_mono, -zero_cells, iaddrA, Mo.cmp, p0]
  · skip
    by_cases q0 : b.x0 < a.x0
    · simp -implicitDefEqProofs [AF36, mono, Mo.cells, Nat.add_assoc, -agg_mono, -zero_cells, iaddrA, Mo.cmp, p0, q0]
    · skip
      by_cases p1 : a.x1 < b.x1
      · simp -implicitDefEqProofs [AF36, mono, Mo.cells, Nat.add_assoc, -agg_mono, -zero_cells, iaddrA, Mo.cmp, p0, q0, p1]
      · skip
        by_cases q1 : b.x1 < a.x1
        · simp -implicitDefEqProofs [AF36, mono, Mo.cells, Nat.add_assoc, -agg_mono, -zero_cells, iaddrA, Mo.cmp, p0, q0, p1, q1]
        · skip
          by_cases p2 : a.x2 < b.x2
          · simp -implicitDefEqProofs [AF36, mono, Mo.cells, Nat.add_assoc, -agg_mono, -zero_cells, iaddrA, Mo.cmp, p0, q0, p1, q1, p2]
          · skip
            by_cases q2 : b.x2 < a.x2
            · simp -implicitDefEqProofs [AF36, mono, Mo.cells, Nat.add_assoc, -agg_mono, -zero_cells, iaddrA, Mo.cmp, p0, q0, p1, q1, p2, q2]
            · skip
              by_cases p3 : a.x3 < b.x3
              · simp -implicitDefEqProofs [AF36, mono, Mo.cells, Nat.add_assoc, -agg_mono, -zero_cells, iaddrA, Mo.cmp, p0, q0, p1, q1, p2, q2, p3]
              · skip
                by_cases q3 : b.x3 < a.x3
                · simp -implicitDefEqProofs [AF36, mono, Mo.cells, Nat.add_assoc, -agg_mono, -zero_cells, iaddrA, Mo.cmp, p0, q0, p1, q1, p2, q2, p3, q3]
                · skip
                  by_cases p4 : a.x4 < b.x4
                  · simp -implicitDefEqProofs [AF36, mono, Mo.cells, Nat.add_assoc, -agg_mono, -zero_cells, iaddrA, Mo.cmp, p0, q0, p1, q1, p2, q2, p3, q3, p4]
                  · skip
                    by_cases q4 : b.x4 < a.x4
                    · simp -implicitDefEqProofs [AF36, mono, Mo.cells, Nat.add_assoc, -agg_mono, -zero_cells, iaddrA, Mo.cmp, p0, q0, p1, q1, p2, q2, p3, q3, p4, q4]
                    · skip
                      by_cases p5 : a.x5 < b.x5
                      · simp -implicitDefEqProofs [AF36, mono, Mo.cells, Nat.add_assoc, -agg_mono, -zero_cells, iaddrA, Mo.cmp, p0, q0, p1, q1, p2, q2, p3, q3, p4, q4, p5]
                      · skip
                        by_cases q5 : b.x5 < a.x5
                        · simp -implicitDefEqProofs [AF36, mono, Mo.cells, Nat.add_assoc, -agg_mono, -zero_cells, iaddrA, Mo.cmp, p0, q0, p1, q1, p2, q2, p3, q3, p4, q4, p5, q5]
                        · skip
                          by_cases p6 : a.x6 < b.x6
                          · simp -implicitDefEqProofs [AF36, mono, Mo.cells, Nat.add_assoc, -agg_mono, -zero_cells, iaddrA, Mo.cmp, p0, q0, p1, q1, p2, q2, p3, q3, p4, q4, p5, q5, p6]
                          · skip
                            by_cases q6 : b.x6 < a.x6
                            · simp -implicitDefEqProofs [AF36, mono, Mo.cells, Nat.add_assoc, -agg_mono, -zero_cells, iaddrA, Mo.cmp, p0, q0, p1, q1, p2, q2, p3, q3, p4, q4, p5, q5, p6, q6]
                            · skip
                              by_cases p7 : a.x7 < b.x7
                              · simp -implicitDefEqProofs [AF36, mono, Mo.cells, Nat.add_assoc, -agg_mono, -zero_cells, iaddrA, Mo.cmp, p0, q0, p1, q1, p2, q2, p3, q3, p4, q4, p5, q5, p6, q6, p7]
                              · skip
                                by_cases q7 : b.x7 < a.x7
                                · simp -implicitDefEqProofs [AF36, mono, Mo.cells, Nat.add_assoc, -agg_mono, -zero_cells, iaddrA, Mo.cmp, p0, q0, p1, q1, p2, q2, p3, q3, p4, q4, p5, q5, p6, q6, p7, q7]
                                · skip
                                  simp -implicitDefEqProofs [AF36, mono, Mo.cells, Nat.add_assoc, -agg_mono, -zero_cells, iaddrA, Mo.cmp, p0, q0, p1, q1, p2, q2, p3, q3, p4, q4, p5, q5, p6, q6, p7, q7]
theorem call_123 {x : Int} {n : Nat} {H : Heap} : evalCall tab (n + 1) 123 [.int .i64 x] H = some (.bool false, H) := by
  rw [call_enter tab_123 (by simp [AF123]) (.inr (by simp))]
  simp -implicitDefEqProofs [AF123]
theorem call_107 {x y : Int} {n : Nat} {H : Heap} : evalCall tab (n + 2) 107 [.int .i64 x, .int .i64 y] H = some (.int .i64 (if x < y then -1 else if y < x then 1 else 0), H) := by
  rw [call_enter tab_107 (by simp [AF107]) (.inr (by simp))]
  by_cases h : x < y
  · simp -implicitDefEqProofs [AF107, call_123, h]
  · by_cases h2 : y < x
    · simp -implicitDefEqProofs [AF107, call_123, h, h2]
    · simp -implicitDefEqProofs [AF107, call_123, h, h2]
theorem call_82 {a b : Mo} {i j : Nat} {n : Nat} {H : Heap} (ha : H.obj i = .cells a.cells none) (hb : H.obj j = .cells b.cells none) : evalCall tab (n + 14) 82 [.sl i 0 8 8 true 1, .sl j 0 8 8 true 1] H = some (.int .i64 (Mo.cmp a b), H) := by
  rw [call_enter tab_82 (by simp [AF82]) (.inl rfl)]
  by_cases p0 : a.x0 < b.x0
  · simp -implicitDefEqProofs [AF82, mono, Mo.cells, Nat.add_assoc, -agg_mono, -zero_cells, iaddrA, Mo.cmp, call_107, ha, hb, p0]
  · skip
    by_cases q0 : b.x0 < a.x0
    · simp -implicitDefEqProofs [AF82, mono, Mo.cells, Nat.add_assoc, -agg_mono, -zero_cells, iaddrA, Mo.cmp, call_107, ha, hb, p0, q0]
    · skip
      by_cases p1 : a.x1 < b.x1
      · simp -implicitDefEqProofs [AF82, mono, Mo.cells, Nat.add_assoc, -agg_mono, -zero_cells, iaddrA, Mo.cmp, call_107, ha, hb, p0, q0, p1]
      · skip
        by_cases q1 : b.x1 < a.x1
        · simp -implicitDefEqProofs [AF82, mono, Mo.cells, Nat.add_assoc, -agg_mono, -zero_cells, iaddrA, Mo.cmp, call_107, ha, hb, p0, q0, p1, q1]
        · skip
          by_cases p2 : a.x2 < b.x2
          · simp -implicitDefEqProofs [AF82, mono, Mo.cells, Nat.add_assoc, -agg_mono, -zero_cells, iaddrA, Mo.cmp, call_107, ha, hb, p0, q0, p1, q1, p2]
          · skip
            by_cases q2 : b.x2 < a.x2
            · simp -implicitDefEqProofs [AF82, mono, Mo.cells, Nat.add_assoc, -agg_mono, -zero_cells, iaddrA, Mo.cmp, call_107, ha, hb, p0, q0, p1, q1, p2, q2]
            · skip
              by_cases p3 : a.x3 < b.x3
              · simp -implicitDefEqProofs [AF82, mono, Mo.cells, Nat.add_assoc, -agg_mono, -zero_cells, iaddrA, Mo.cmp, call_107, ha, hb, p0, q0, p1, q1, p2, q2, p3]
              · skip
                by_cases q3 : b.x3 < a.x3
                · simp -implicitDefEqProofs [AF82, mono, Mo.cells, Nat.add_assoc, -agg_mono, -zero_cells, iaddrA, Mo.cmp, call_107, ha, hb, p0, q0, p1, q1, p2, q2, p3, q3]
                · skip
                  by_cases p4 : a.x4 < b.x4
                  · simp -implicitDefEqProofs [AF82, mono, Mo.cells, Nat.add_assoc, -agg_mono, -zero_cells, iaddrA, Mo.cmp, call_107, ha, hb, p0, q0, p1, q1, p2, q2, p3, q3, p4]
                  · skip
                    by_cases q4 : b.x4 < a.x4
                    · simp -implicitDefEqProofs [AF82, mono, Mo.cells, Nat.add_assoc, -agg_mono, -zero_cells, iaddrA, Mo.cmp, call_107, ha, hb, p0, q0, p1, q1, p2, q2, p3, q3, p4, q4]
                    · skip
                      by_cases p5 : a.x5 < b.x5
                      · simp -implicitDefEqProofs [AF82, mono, Mo.cells, Nat.add_assoc, -agg_mono, -zero_cells, iaddrA, Mo.cmp, call_107, ha, hb, p0, q0, p1, q1, p2, q2, p3, q3, p4, q4, p5]
                      · skip
                        by_cases q5 : b.x5 < a.x5
                        · simp -implicitDefEqProofs [AF82, mono, Mo.cells, Nat.add_assoc, -agg_mono, -zero_cells, iaddrA, Mo.cmp, call_107, ha, hb, p0, q0, p1, q1, p2, q2, p3, q3, p4, q4, p5, q5]
                        · skip
                          by_cases p6 : a.x6 < b.x6
                          · simp -implicitDefEqProofs [AF82, mono, Mo.cells, Nat.add_assoc, -agg_mono, -zero_cells, iaddrA, Mo.cmp, call_107, ha, hb, p0, q0, p1, q1, p2, q2, p3, q3, p4, q4, p5, q5, p6]
                          · skip
                            by_cases q6 : b.x6 < a.x6
                            · simp -implicitDefEqProofs [AF82, mono, Mo.cells, Nat.add_assoc, -agg_mono, -zero_cells, iaddrA, Mo.cmp, call_107, ha, hb, p0, q0, p1, q1, p2, q2, p3, q3, p4, q4, p5, q5, p6, q6]
                            · skip
                              by_cases p7 : a.x7 < b.x7
                              · simp -implicitDefEqProofs [AF82, mono, Mo.cells, Nat.add_assoc, -agg_mono, -zero_cells, iaddrA, Mo.cmp, call_107, ha, hb, p0, q0, p1, q1, p2, q2, p3, q3, p4, q4, p5, q5, p6, q6, p7]
                              · skip
                                by_cases q7 : b.x7 < a.x7
                                · simp -implicitDefEqProofs [AF82, mono, Mo.cells, Nat.add_assoc, -agg_mono, -zero_cells, iaddrA, Mo.cmp, call_107, ha, hb, p0, q0, p1, q1, p2, q2, p3, q3, p4, q4, p5, q5, p6, q6, p7, q7]
                                · skip
                                  simp -implicitDefEqProofs [AF82, mono, Mo.cells, Nat.add_assoc, -agg_mono, -zero_cells, iaddrA, Mo.cmp, call_107, ha, hb, p0, q0, p1, q1, p2, q2, p3, q3, p4, q4, p5, q5, p6, q6, p7, q7]
theorem call_35 {a b : Mo} {n : Nat} {H : Heap} : evalCall tab (n + 16) 35 [mono a, mono b] H = some (.int .i64 (Mo.cmp a b), H) := by
  rw [call_enter tab_35 (by simp [AF35]) (.inr (by simp))]
  have h : evalCall tab (n + 15) 82 [.sl H.next 0 8 8 true 1, .sl (H.next + 1) 0 8 8 true 1] ((H.begin.new (.cells a.cells none)).new (.cells b.cells none)) = _ := call_82 (n := n + 1) (a := a) (b := b) (by simp) (by simp)
  simp -implicitDefEqProofs [AF35, Nat.add_assoc, slcA, bnds, bnd, h]
def raw (x : Mo) : AV := .agg [.int .u16 x.x0, .int .u16 x.x1, .int .u16 x.x2, .int .u16 x.x3, .int .u16 x.x4, .int .u16 x.x5, .int .u16 x.x6, .int .u16 x.x7]
end Go.Mach.Ytl
