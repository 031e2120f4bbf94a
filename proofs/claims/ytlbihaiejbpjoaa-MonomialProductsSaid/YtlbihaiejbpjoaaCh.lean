/-
  The law of products, in the machine. By an AI agent.
-/
import Derived.Test.YtlbihaiejbpjoaaCg
set_option linter.unusedSimpArgs false
set_option linter.unusedVariables false
set_option maxRecDepth 100000
namespace Go.Mach.Ytl
open Go.Mach

theorem use_7 {call : CallFn} {n m j1 j2 : Nat} {s : List Itm} {k : KF} {σ : Sig} {H : Heap} {a b : Mo} {r : R} (h8 : σ 8 = .ptr j1 0) (h9 : σ 9 = .ptr j2 0) (o1 : H.obj j1 = .cells a.cells none) (o2 : H.obj j2 = .cells b.cells none) (h15 : σ 15 = .bool false) (h16 : σ 16 = .int .i64 0)
    (h : ∀ σ', σ' 15 = .bool (Mo.big a b) → σ' 16 = .int .i64 8 → (∀ t, t < 15 → σ' t = σ t) → lp call n L7 m s k σ' H = r) : lp call n L7 (m + 8) s k σ H = r := by
  obtain ⟨σ', e, k1, k2, k3⟩ := run_7 (call := call) (n := n) (m := m) (s := s) (k := k) h8 h9 o1 o2 h15 h16
  rw [e]
  exact h σ' k1 k2 k3

set_option maxHeartbeats 2000000 in
theorem law7 {x y z : Mo} (hx : x.valid) (hy : y.valid) (hz : z.valid) : evalCall tab 211 7 [raw x, raw y, raw z] Heap.empty = some (.bool true, Heap.empty) := by
  have hs : evalCall tab 210 27 [] (((Heap.empty.begin.new (.cells x.rcells none)).new (.cells y.rcells none)).new (.cells z.rcells none)) = some (.bool true, _) := san3 _
  rw [call_enter tab_7 (by simp [AF7]) (.inr (by simp))]
  have hb := big_iff hx hy
  have c1 := @add_comm y x
  by_cases hp : (Mo.map2 iadd x y).valid
  · have d1 := deg_add hx hy hp
    have d2 := sup_add hx hy
    have d3 := add_sub hx hy
    have d4 := le_add hx hy
    have d5 := add_zero hx
    simp -implicitDefEqProofs [AF7, hs, call_28 hx, call_28 hy, call_28 hz, call_29, c1, hp, unA, -lp_succ]
    generalize hσ : upd (upd _ 15 _) 16 _ = σ
    have g6 : σ 6 = .bool false := by subst hσ; simp
    have g7 : σ 7 = .bool true := by subst hσ; simp
    have g8 : σ 8 = .ptr 3 0 := by subst hσ; simp
    have g9 : σ 9 = .ptr 4 0 := by subst hσ; simp
    have g10 : σ 10 = .ptr 5 0 := by subst hσ; simp
    have g11 : σ 11 = .ptr 6 0 := by subst hσ; simp
    have g12 : σ 12 = .int .i64 0 := by subst hσ; simp
    have g13 : σ 13 = .ptr 7 0 := by subst hσ; simp
    have g14 : σ 14 = .int .i64 0 := by subst hσ; simp
    have g15 : σ 15 = .bool false := by subst hσ; simp
    have g16 : σ 16 = .int .i64 0 := by subst hσ; simp
    clear hσ
    refine use_7 (m := 202) (a := x) (b := y) g8 g9 (by simp) (by simp) g15 g16 fun σ' f15 f16 keep => ?_
    by_cases hq : (Mo.map2 iadd y z).valid
    · have d6 := add_assoc' hp hq hx hy hz
      by_cases ht : (Mo.map2 iadd x (Mo.map2 iadd y z)).valid
      · simp -implicitDefEqProofs [L7, AF7, f15, f16, keep, g6, g7, g8, g9, g10, g11, g12, g13, g14, hb, hp, hq, ht, hx, d1, d2, d3, d4, d5, d6, call_29, call_31, call_41, call_43, min_le, unA, fillA]
      · simp -implicitDefEqProofs [L7, AF7, f15, f16, keep, g6, g7, g8, g9, g10, g11, g12, g13, g14, hb, hp, hq, ht, hx, d1, d2, d3, d4, d5, d6, call_29, call_31, call_41, call_43, min_le, unA, fillA]
    · simp -implicitDefEqProofs [L7, AF7, f15, f16, keep, g6, g7, g8, g9, g10, g11, g12, g13, g14, hb, hp, hq, hx, d1, d2, d3, d4, d5, call_29, call_31, call_41, call_43, min_le, unA, fillA]
  · simp -implicitDefEqProofs [AF7, hs, call_28 hx, call_28 hy, call_28 hz, call_29, c1, hp, unA, -lp_succ]
    generalize hσ : upd (upd _ 15 _) 16 _ = σ
    have g6 : σ 6 = .bool false := by subst hσ; simp
    have g7 : σ 7 = .bool true := by subst hσ; simp
    have g8 : σ 8 = .ptr 3 0 := by subst hσ; simp
    have g9 : σ 9 = .ptr 4 0 := by subst hσ; simp
    have g10 : σ 10 = .ptr 5 0 := by subst hσ; simp
    have g11 : σ 11 = .ptr 6 0 := by subst hσ; simp
    have g12 : σ 12 = .int .i64 2 := by subst hσ; simp
    have g13 : σ 13 = .ptr 7 0 := by subst hσ; simp
    have g14 : σ 14 = .int .i64 2 := by subst hσ; simp
    have g15 : σ 15 = .bool false := by subst hσ; simp
    have g16 : σ 16 = .int .i64 0 := by subst hσ; simp
    clear hσ
    refine use_7 (m := 202) (a := x) (b := y) g8 g9 (by simp) (by simp) g15 g16 fun σ' f15 f16 keep => ?_
    simp -implicitDefEqProofs [L7, AF7, f15, f16, keep, g6, g7, g8, g9, g10, g11, g12, g13, g14, hb, hp, unA, fillA]
end Go.Mach.Ytl
