/-
  Pruned copy of the text Cc. By an AI agent.
-/
import Derived.Test.YtlbihaiejbpjoaaZ14Cb
set_option linter.unusedSimpArgs false
set_option linter.unusedVariables false
set_option maxRecDepth 100000
namespace Go.Mach.Ytl
open Go.Mach
attribute [local simp] part_false part_true stO_some wrap_int wrap_byte binA ibin
def orB (v w : Int) : Int := IntKind.u8.wrap (BitVec.ofInt IntKind.u8.bits v ||| BitVec.ofInt IntKind.u8.bits w).toNat
def L43 : ACode := match AF43.body with
  | .seq _ (.seq _ (.seq (.seq _ (.block _ (.loop c))) _)) => c
  | _ => .skip
def stO' (p : Prop) [Decidable p] (w v : Int) : Int := if p then orB v w else v
def stA' (p : Prop) [Decidable p] (w v : Int) : Int := if p then IntKind.u8.wrap (v + w) else v
def Mo.sup (a : Mo) : Int := (stO' (0 < a.x7) 128 (stO' (0 < a.x6) 64 (stO' (0 < a.x5) 32 (stO' (0 < a.x4) 16 (stO' (0 < a.x3) 8 (stO' (0 < a.x2) 4 (stO' (0 < a.x1) 2 (stO' (0 < a.x0) 1 (0 : Int)))))))))
def Mo.sup' (a : Mo) : Int := (stA' (0 < a.x7) 128 (stA' (0 < a.x6) 64 (stA' (0 < a.x5) 32 (stA' (0 < a.x4) 16 (stA' (0 < a.x3) 8 (stA' (0 < a.x2) 4 (stA' (0 < a.x1) 2 (stA' (0 < a.x0) 1 (0 : Int)))))))))
theorem it_43_0 {call : CallFn} {n m : Nat} {s : List Itm} {k : KF} {σ : Sig} {H : Heap} {a : Mo} {v : Int} (h3 : σ 3 = .int .u8 v) (h6 : σ 6 = mono a) (h7 : σ 7 = .int .i64 0) :
    ∃ σ', lp call n L43 (m + 1) s k σ H = lp call n L43 m s k σ' H ∧ σ' 3 = .int .u8 (stO' (0 < a.x0) 1 v) ∧ σ' 6 = mono a ∧ σ' 7 = .int .i64 1 := by
  simp only [mono, Mo.cells] at h6
  by_cases h : 0 < a.x0
  · refine ⟨?w0, ?e0, ?a0, ?b0, ?c0⟩
    case e0 => simp -implicitDefEqProofs [L43, AF43, h3, h6, h7, h, -agg_mono, IntKind.bits]; rfl
    all_goals simp [h3, h6, h7, h, mono, Mo.cells, stO', orB, -agg_mono, IntKind.bits]
  · refine ⟨?w1, ?e1, ?a1, ?b1, ?c1⟩
    case e1 => simp -implicitDefEqProofs [L43, AF43, h3, h6, h7, h, -agg_mono, IntKind.bits]; rfl
    all_goals simp [h3, h6, h7, h, mono, Mo.cells, stO', orB, -agg_mono, IntKind.bits]
theorem it_43_1 {call : CallFn} {n m : Nat} {s : List Itm} {k : KF} {σ : Sig} {H : Heap} {a : Mo} {v : Int} (h3 : σ 3 = .int .u8 v) (h6 : σ 6 = mono a) (h7 : σ 7 = .int .i64 1) :
    ∃ σ', lp call n L43 (m + 1) s k σ H = lp call n L43 m s k σ' H ∧ σ' 3 = .int .u8 (stO' (0 < a.x1) 2 v) ∧ σ' 6 = mono a ∧ σ' 7 = .int .i64 2 := by
  simp only [mono, Mo.cells] at h6
  by_cases h : 0 < a.x1
  · refine ⟨?w0, ?e0, ?a0, ?b0, ?c0⟩
    case e0 => simp -implicitDefEqProofs [L43, AF43, h3, h6, h7, h, -agg_mono, IntKind.bits]; rfl
    all_goals simp [h3, h6, h7, h, mono, Mo.cells, stO', orB, -agg_mono, IntKind.bits]
  · refine ⟨?w1, ?e1, ?a1, ?b1, ?c1⟩
    case e1 => simp -implicitDefEqProofs [L43, AF43, h3, h6, h7, h, -agg_mono, IntKind.bits]; rfl
    all_goals simp [h3, h6, h7, h, mono, Mo.cells, stO', orB, -agg_mono, IntKind.bits]
theorem it_43_2 {call : CallFn} {n m : Nat} {s : List Itm} {k : KF} {σ : Sig} {H : Heap} {a : Mo} {v : Int} (h3 : σ 3 = .int .u8 v) (h6 : σ 6 = mono a) (h7 : σ 7 = .int .i64 2) :
    ∃ σ', lp call n L43 (m + 1) s k σ H = lp call n L43 m s k σ' H ∧ σ' 3 = .int .u8 (stO' (0 < a.x2) 4 v) ∧ σ' 6 = mono a ∧ σ' 7 = .int .i64 3 := by
  simp only [mono, Mo.cells] at h6
  by_cases h : 0 < a.x2
  · refine ⟨?w0, ?e0, ?a0, ?b0, ?c0⟩
    case e0 => simp -implicitDefEqProofs [L43, AF43, h3, h6, h7, h, -agg_mono, IntKind.bits]; rfl
    all_goals simp [h3, h6, h7, h, mono, Mo.cells, stO', orB, -agg_mono, IntKind.bits]
  · refine ⟨?w1, ?e1, ?a1, ?b1, ?c1⟩
    case e1 => simp -implicitDefEqProofs [L43, AF43, h3, h6, h7, h, -agg_mono, IntKind.bits]; rfl
    all_goals simp [h3, h6, h7, h, mono, Mo.cells, stO', orB, -agg_mono, IntKind.bits]
theorem it_43_3 {call : CallFn} {n m : Nat} {s : List Itm} {k : KF} {σ : Sig} {H : Heap} {a : Mo} {v : Int} (h3 : σ 3 = .int .u8 v) (h6 : σ 6 = mono a) (h7 : σ 7 = .int .i64 3) :
    ∃ σ', lp call n L43 (m + 1) s k σ H = lp call n L43 m s k σ' H ∧ σ' 3 = .int .u8 (stO' (0 < a.x3) 8 v) ∧ σ' 6 = mono a ∧ σ' 7 = .int .i64 4 := by
  simp only [mono, Mo.cells] at h6
  by_cases h : 0 < a.x3
  · refine ⟨?w0, ?e0, ?a0, ?b0, ?c0⟩
    case e0 => simp -implicitDefEqProofs [L43, AF43, h3, h6, h7, h, -agg_mono, IntKind.bits]; rfl
    all_goals simp [h3, h6, h7, h, mono, Mo.cells, stO', orB, -agg_mono, IntKind.bits]
  · refine ⟨?w1, ?e1, ?a1, ?b1, ?c1⟩
    case e1 => simp -implicitDefEqProofs [L43, AF43, h3, h6, h7, h, -agg_mono, IntKind.bits]; rfl
    all_goals simp [h3, h6, h7, h, mono, Mo.cells, stO', orB, -agg_mono, IntKind.bits]
theorem it_43_4 {call : CallFn} {n m : Nat} {s : List Itm} {k : KF} {σ : Sig} {H : Heap} {a : Mo} {v : Int} (h3 : σ 3 = .int .u8 v) (h6 : σ 6 = mono a) (h7 : σ 7 = .int .i64 4) :
    ∃ σ', lp call n L43 (m + 1) s k σ H = lp call n L43 m s k σ' H ∧ σ' 3 = .int .u8 (stO' (0 < a.x4) 16 v) ∧ σ' 6 = mono a ∧ σ' 7 = .int .i64 5 := by
  simp only [mono, Mo.cells] at h6
  by_cases h : 0 < a.x4
  · refine ⟨?w0, ?e0, ?a0, ?b0, ?c0⟩
    case e0 => simp -implicitDefEqProofs [L43, AF43, h3, h6, h7, h, -agg_mono, IntKind.bits]; rfl
    all_goals simp [h3, h6, h7, h, mono, Mo.cells, stO', orB, -agg_mono, IntKind.bits]
  · refine ⟨?w1, ?e1, ?a1, ?b1, ?c1⟩
    case e1 => simp -implicitDefEqProofs [L43, AF43, h3, h6, h7, h, -agg_mono, IntKind.bits]; rfl
    all_goals simp [h3, h6, h7, h, mono, Mo.cells, stO', orB, -agg_mono, IntKind.bits]
theorem it_43_5 {call : CallFn} {n m : Nat} {s : List Itm} {k : KF} {σ : Sig} {H : Heap} {a : Mo} {v : Int} (h3 : σ 3 = .int .u8 v) (h6 : σ 6 = mono a) (h7 : σ 7 = .int .i64 5) :
    ∃ σ', lp call n L43 (m + 1) s k σ H = lp call n L43 m s k σ' H ∧ σ' 3 = .int .u8 (stO' (0 < a.x5) 32 v) ∧ σ' 6 = mono a ∧ σ' 7 = .int .i64 6 := by
  simp only [mono, Mo.cells] at h6
  by_cases h : 0 < a.x5
  · refine ⟨?w0, ?e0, ?a0, ?b0, ?c0⟩
    case e0 => simp -implicitDefEqProofs [L43, AF43, h3, h6, h7, h, -agg_mono, IntKind.bits]; rfl
    all_goals simp [h3, h6, h7, h, mono, Mo.cells, stO', orB, -agg_mono, IntKind.bits]
  · refine ⟨?w1, ?e1, ?a1, ?b1, ?c1⟩
    case e1 => simp -implicitDefEqProofs [L43, AF43, h3, h6, h7, h, -agg_mono, IntKind.bits]; rfl
    all_goals simp [h3, h6, h7, h, mono, Mo.cells, stO', orB, -agg_mono, IntKind.bits]
theorem it_43_6 {call : CallFn} {n m : Nat} {s : List Itm} {k : KF} {σ : Sig} {H : Heap} {a : Mo} {v : Int} (h3 : σ 3 = .int .u8 v) (h6 : σ 6 = mono a) (h7 : σ 7 = .int .i64 6) :
    ∃ σ', lp call n L43 (m + 1) s k σ H = lp call n L43 m s k σ' H ∧ σ' 3 = .int .u8 (stO' (0 < a.x6) 64 v) ∧ σ' 6 = mono a ∧ σ' 7 = .int .i64 7 := by
  simp only [mono, Mo.cells] at h6
  by_cases h : 0 < a.x6
  · refine ⟨?w0, ?e0, ?a0, ?b0, ?c0⟩
    case e0 => simp -implicitDefEqProofs [L43, AF43, h3, h6, h7, h, -agg_mono, IntKind.bits]; rfl
    all_goals simp [h3, h6, h7, h, mono, Mo.cells, stO', orB, -agg_mono, IntKind.bits]
  · refine ⟨?w1, ?e1, ?a1, ?b1, ?c1⟩
    case e1 => simp -implicitDefEqProofs [L43, AF43, h3, h6, h7, h, -agg_mono, IntKind.bits]; rfl
    all_goals simp [h3, h6, h7, h, mono, Mo.cells, stO', orB, -agg_mono, IntKind.bits]
theorem it_43_7 {call : CallFn} {n m : Nat} {s : List Itm} {k : KF} {σ : Sig} {H : Heap} {a : Mo} {v : Int} (h3 : σ 3 = .int .u8 v) (h6 : σ 6 = mono a) (h7 : σ 7 = .int .i64 7) :
    ∃ σ', lp call n L43 (m + 1) s k σ H = lp call n L43 m s k σ' H ∧ σ' 3 = .int .u8 (stO' (0 < a.x7) 128 v) ∧ σ' 6 = mono a ∧ σ' 7 = .int .i64 8 := by
  simp only [mono, Mo.cells] at h6
  by_cases h : 0 < a.x7
  · refine ⟨?w0, ?e0, ?a0, ?b0, ?c0⟩
    case e0 => simp -implicitDefEqProofs [L43, AF43, h3, h6, h7, h, -agg_mono, IntKind.bits]; rfl
    all_goals simp [h3, h6, h7, h, mono, Mo.cells, stO', orB, -agg_mono, IntKind.bits]
  · refine ⟨?w1, ?e1, ?a1, ?b1, ?c1⟩
    case e1 => simp -implicitDefEqProofs [L43, AF43, h3, h6, h7, h, -agg_mono, IntKind.bits]; rfl
    all_goals simp [h3, h6, h7, h, mono, Mo.cells, stO', orB, -agg_mono, IntKind.bits]
theorem call_43 {a : Mo} {n : Nat} {H : Heap} : evalCall tab (n + 12) 43 [mono a] H = some (.int .u8 a.sup, H) := by
  rw [call_enter tab_43 (by simp [AF43]) (.inr (by simp))]
  simp -implicitDefEqProofs [AF43, Nat.add_assoc, -lp_succ]
  generalize hs : upd (upd _ 6 _) 7 _ = σ
  have g3 : σ 3 = .int .u8 0 := by subst hs; simp
  have g6 : σ 6 = mono a := by subst hs; simp
  have g7 : σ 7 = .int .i64 0 := by subst hs; simp
  clear hs
  obtain ⟨σ0, e0, k03, k06, k07⟩ := it_43_0 (call := evalCall tab (n + 11)) (n := n + 11) (m := n + 10) (s := _) (k := _) (H := _) g3 g6 g7
  obtain ⟨σ1, e1, k13, k16, k17⟩ := it_43_1 (call := evalCall tab (n + 11)) (n := n + 11) (m := n + 9) (s := _) (k := _) (H := _) k03 k06 k07
  obtain ⟨σ2, e2, k23, k26, k27⟩ := it_43_2 (call := evalCall tab (n + 11)) (n := n + 11) (m := n + 8) (s := _) (k := _) (H := _) k13 k16 k17
  obtain ⟨σ3, e3, k33, k36, k37⟩ := it_43_3 (call := evalCall tab (n + 11)) (n := n + 11) (m := n + 7) (s := _) (k := _) (H := _) k23 k26 k27
  obtain ⟨σ4, e4, k43, k46, k47⟩ := it_43_4 (call := evalCall tab (n + 11)) (n := n + 11) (m := n + 6) (s := _) (k := _) (H := _) k33 k36 k37
  obtain ⟨σ5, e5, k53, k56, k57⟩ := it_43_5 (call := evalCall tab (n + 11)) (n := n + 11) (m := n + 5) (s := _) (k := _) (H := _) k43 k46 k47
  obtain ⟨σ6, e6, k63, k66, k67⟩ := it_43_6 (call := evalCall tab (n + 11)) (n := n + 11) (m := n + 4) (s := _) (k := _) (H := _) k53 k56 k57
  obtain ⟨σ7, e7, k73, k76, k77⟩ := it_43_7 (call := evalCall tab (n + 11)) (n := n + 11) (m := n + 3) (s := _) (k := _) (H := _) k63 k66 k67
  simp only [L43, AF43] at e0 e1 e2 e3 e4 e5 e6 e7
  rw [e0, e1, e2, e3, e4, e5, e6, e7]
  simp -implicitDefEqProofs [k73, k76, k77, Mo.sup]
end Go.Mach.Ytl
