/-
  Supports of monomials. Written in part by a program. By an AI agent.
-/
import Derived.Test.YtlbihaiejbpjoaaCb
set_option linter.unusedSimpArgs false
set_option linter.unusedVariables false
set_option maxRecDepth 100000
namespace Go.Mach.Ytl
open Go.Mach
attribute [local simp] part_false part_true stO_some wrap_int wrap_byte binA ibin

/-! ### Supports -/
def orB (v w : Int) : Int := IntKind.u8.wrap (BitVec.ofInt IntKind.u8.bits v ||| BitVec.ofInt IntKind.u8.bits w).toNat
def L43 : ACode := match AF43.body with
  | .seq _ (.seq _ (.seq (.seq _ (.block _ (.loop c))) _)) => c
  | _ => .skip
def stO' (p : Prop) [Decidable p] (w v : Int) : Int := if p then orB v w else v
def stA' (p : Prop) [Decidable p] (w v : Int) : Int := if p then IntKind.u8.wrap (v + w) else v
def Mo.sup (a : Mo) : Int := (stO' (0 < a.x7) 128 (stO' (0 < a.x6) 64 (stO' (0 < a.x5) 32 (stO' (0 < a.x4) 16 (stO' (0 < a.x3) 8 (stO' (0 < a.x2) 4 (stO' (0 < a.x1) 2 (stO' (0 < a.x0) 1 (0 : Int)))))))))
def Mo.sup' (a : Mo) : Int := (stA' (0 < a.x7) 128 (stA' (0 < a.x6) 64 (stA' (0 < a.x5) 32 (stA' (0 < a.x4) 16 (stA' (0 < a.x3) 8 (stA' (0 < a.x2) 4 (stA' (0 < a.x1) 2 (stA' (0 < a.x0) 1 (0 : Int)))))))))
def L44 : ACode := match AF44.body with
  | .seq _ (.seq _ (.seq (.seq _ (.block _ (.loop c))) _)) => c
  | _ => .skip
theorem it_43_0 {call : CallFn} {n m : Nat} {s : List Itm} {k : KF} {σ : Sig} {H : Heap} {a : Mo} {v : Int} (h3 : σ 3 = .int .u8 v) (h6 : σ 6 = mono a) (h7 : σ 7 = .int .i64 0) :
    ∃ σ', lp call n L43 (m + 1) s k σ H = lp call n L43 m s k σ' H ∧ σ' 3 = .int .u8 (stO' (0 < a.x0) 1 v) ∧ σ' 6 = mono a ∧ σ' 7 = .int .i64 1 := by
  simp only [mono, Mo.cells] at h6
  by_cases h : 0 < a.x0
  · refine ⟨?w0, ?e0, ?a0, ?b0, ?c0⟩
    case e0 => simp -implicitDefEqProofs [L43, AF43, h3, h6, h7, h, -agg_mono, IntKind.bits]; rfl
    all_goals simp [h3, h6, h7, h, mono, Mo.cells, stO', orB, -agg_mono, IntKind.bits]
  · refine ⟨?w1, ?e1, ?a1, ?b1, ?c1⟩
    case e1 => simp -implicitDefEqProofs [L43, AF43, h3, h6, h7, h, -agg_mono, IntKind.bits]; rfl
    all_goals simp [h3, h6, h7, h, mono, Mo.cells, stO', orB, -agg_mono, IntKind.bits]
theorem call_85_0 {n : Nat} {H : Heap} : evalCall tab (n + 12) 85 [.int .i64 0] H = some (.int .u8 1, H) := by
  rw [call_enter tab_85 (by simp [AF85]) (.inr (by simp))]
  simp -implicitDefEqProofs [AF85, Nat.add_assoc]
theorem it_44_0 {n m j : Nat} {s : List Itm} {k : KF} {σ : Sig} {H : Heap} {a : Mo} {v : Int} (h1 : σ 1 = .ptr j 0) (hj : H.obj j = .cells a.cells none) (h3 : σ 3 = .int .u8 v) (h4 : σ 4 = .int .i64 0) :
    ∃ σ', lp (evalCall tab (n + 12)) (n + 12) L44 (m + 1) s k σ H = lp (evalCall tab (n + 12)) (n + 12) L44 m s k σ' H ∧ σ' 1 = .ptr j 0 ∧ σ' 3 = .int .u8 (stA' (0 < a.x0) 1 v) ∧ σ' 4 = .int .i64 1 := by
  simp only [Mo.cells] at hj
  by_cases h : 0 < a.x0
  · refine ⟨?w2, ?e2, ?a2, ?b2, ?c2⟩
    case e2 => simp -implicitDefEqProofs [L44, AF44, h3, h1, h4, hj, h, iaddrA, call_85_0]; rfl
    all_goals simp [h3, h1, h4, h, stA']
  · refine ⟨?w3, ?e3, ?a3, ?b3, ?c3⟩
    case e3 => simp -implicitDefEqProofs [L44, AF44, h3, h1, h4, hj, h, iaddrA, call_85_0]; rfl
    all_goals simp [h3, h1, h4, h, stA']
theorem it_43_1 {call : CallFn} {n m : Nat} {s : List Itm} {k : KF} {σ : Sig} {H : Heap} {a : Mo} {v : Int} (h3 : σ 3 = .int .u8 v) (h6 : σ 6 = mono a) (h7 : σ 7 = .int .i64 1) :
    ∃ σ', lp call n L43 (m + 1) s k σ H = lp call n L43 m s k σ' H ∧ σ' 3 = .int .u8 (stO' (0 < a.x1) 2 v) ∧ σ' 6 = mono a ∧ σ' 7 = .int .i64 2 := by
  simp only [mono, Mo.cells] at h6
  by_cases h : 0 < a.x1
  · refine ⟨?w0, ?e0, ?a0, ?b0, ?c0⟩
    case e0 => simp -implicitDefEqProofs [L43, AF43, h3, h6, h7, h, -agg_mono, IntKind.bits]; rfl
    all_goals simp [h3, h6, h7, h, mono, Mo.cells, stO', orB, -agg_mono, IntKind.bits]
  · refine ⟨?w1, ?e1, ?a1, ?b1, ?c1⟩
    case e1 => simp -implicitDefEqProofs [L43, AF43, h3, h6, h7, h, -agg_mono, IntKind.bits]; rfl
    all_goals simp [h3, h6, h7, h, mono, Mo.cells, stO', orB, -agg_mono, IntKind.bits]
theorem call_85_1 {n : Nat} {H : Heap} : evalCall tab (n + 12) 85 [.int .i64 1] H = some (.int .u8 2, H) := by
  rw [call_enter tab_85 (by simp [AF85]) (.inr (by simp))]
  simp -implicitDefEqProofs [AF85, Nat.add_assoc]
theorem it_44_1 {n m j : Nat} {s : List Itm} {k : KF} {σ : Sig} {H : Heap} {a : Mo} {v : Int} (h1 : σ 1 = .ptr j 0) (hj : H.obj j = .cells a.cells none) (h3 : σ 3 = .int .u8 v) (h4 : σ 4 = .int .i64 1) :
    ∃ σ', lp (evalCall tab (n + 12)) (n + 12) L44 (m + 1) s k σ H = lp (evalCall tab (n + 12)) (n + 12) L44 m s k σ' H ∧ σ' 1 = .ptr j 0 ∧ σ' 3 = .int .u8 (stA' (0 < a.x1) 2 v) ∧ σ' 4 = .int .i64 2 := by
  simp only [Mo.cells] at hj
  by_cases h : 0 < a.x1
  · refine ⟨?w2, ?e2, ?a2, ?b2, ?c2⟩
    case e2 => simp -implicitDefEqProofs [L44, AF44, h3, h1, h4, hj, h, iaddrA, call_85_1]; rfl
    all_goals simp [h3, h1, h4, h, stA']
  · refine ⟨?w3, ?e3, ?a3, ?b3, ?c3⟩
    case e3 => simp -implicitDefEqProofs [L44, AF44, h3, h1, h4, hj, h, iaddrA, call_85_1]; rfl
    all_goals simp [h3, h1, h4, h, stA']
theorem it_43_2 {call : CallFn} {n m : Nat} {s : List Itm} {k : KF} {σ : Sig} {H : Heap} {a : Mo} {v : Int} (h3 : σ 3 = .int .u8 v) (h6 : σ 6 = mono a) (h7 : σ 7 = .int .i64 2) :
    ∃ σ', lp call n L43 (m + 1) s k σ H = lp call n L43 m s k σ' H ∧ σ' 3 = .int .u8 (stO' (0 < a.x2) 4 v) ∧ σ' 6 = mono a ∧ σ' 7 = .int .i64 3 := by
  simp only [mono, Mo.cells] at h6
  by_cases h : 0 < a.x2
  · refine ⟨?w0, ?e0, ?a0, ?b0, ?c0⟩
    case e0 => simp -implicitDefEqProofs [L43, AF43, h3, h6, h7, h, -agg_mono, IntKind.bits]; rfl
    all_goals simp [h3, h6, h7, h, mono, Mo.cells, stO', orB, -agg_mono, IntKind.bits]
  · refine ⟨?w1, ?e1, ?a1, ?b1, ?c1⟩
    case e1 => simp -implicitDefEqProofs [L43, AF43, h3, h6, h7, h, -agg_mono, IntKind.bits]; rfl
    all_goals simp [h3, h6, h7, h, mono, Mo.cells, stO', orB, -agg_mono, IntKind.bits]
theorem call_85_2 {n : Nat} {H : Heap} : evalCall tab (n + 12) 85 [.int .i64 2] H = some (.int .u8 4, H) := by
  rw [call_enter tab_85 (by simp [AF85]) (.inr (by simp))]
  simp -implicitDefEqProofs [AF85, Nat.add_assoc]
theorem it_44_2 {n m j : Nat} {s : List Itm} {k : KF} {σ : Sig} {H : Heap} {a : Mo} {v : Int} (h1 : σ 1 = .ptr j 0) (hj : H.obj j = .cells a.cells none) (h3 : σ 3 = .int .u8 v) (h4 : σ 4 = .int .i64 2) :
    ∃ σ', lp (evalCall tab (n + 12)) (n + 12) L44 (m + 1) s k σ H = lp (evalCall tab (n + 12)) (n + 12) L44 m s k σ' H ∧ σ' 1 = .ptr j 0 ∧ σ' 3 = .int .u8 (stA' (0 < a.x2) 4 v) ∧ σ' 4 = .int .i64 3 := by
  simp only [Mo.cells] at hj
  by_cases h : 0 < a.x2
  · refine ⟨?w2, ?e2, ?a2, ?b2, ?c2⟩
    case e2 => simp -implicitDefEqProofs [L44, AF44, h3, h1, h4, hj, h, iaddrA, call_85_2]; rfl
    all_goals simp [h3, h1, h4, h, stA']
  · refine ⟨?w3, ?e3, ?a3, ?b3, ?c3⟩
    case e3 => simp -implicitDefEqProofs [L44, AF44, h3, h1, h4, hj, h, iaddrA, call_85_2]; rfl
    all_goals simp [h3, h1, h4, h, stA']
theorem it_43_3 {call : CallFn} {n m : Nat} {s : List Itm} {k : KF} {σ : Sig} {H : Heap} {a : Mo} {v : Int} (h3 : σ 3 = .int .u8 v) (h6 : σ 6 = mono a) (h7 : σ 7 = .int .i64 3) :
    ∃ σ', lp call n L43 (m + 1) s k σ H = lp call n L43 m s k σ' H ∧ σ' 3 = .int .u8 (stO' (0 < a.x3) 8 v) ∧ σ' 6 = mono a ∧ σ' 7 = .int .i64 4 := by
  simp only [mono, Mo.cells] at h6
  by_cases h : 0 < a.x3
  · refine ⟨?w0, ?e0, ?a0, ?b0, ?c0⟩
    case e0 => simp -implicitDefEqProofs [L43, AF43, h3, h6, h7, h, -agg_mono, IntKind.bits]; rfl
    all_goals simp [h3, h6, h7, h, mono, Mo.cells, stO', orB, -agg_mono, IntKind.bits]
  · refine ⟨?w1, ?e1, ?a1, ?b1, ?c1⟩
    case e1 => simp -implicitDefEqProofs [L43, AF43, h3, h6, h7, h, -agg_mono, IntKind.bits]; rfl
    all_goals simp [h3, h6, h7, h, mono, Mo.cells, stO', orB, -agg_mono, IntKind.bits]
theorem call_85_3 {n : Nat} {H : Heap} : evalCall tab (n + 12) 85 [.int .i64 3] H = some (.int .u8 8, H) := by
  rw [call_enter tab_85 (by simp [AF85]) (.inr (by simp))]
  simp -implicitDefEqProofs [AF85, Nat.add_assoc]
theorem it_44_3 {n m j : Nat} {s : List Itm} {k : KF} {σ : Sig} {H : Heap} {a : Mo} {v : Int} (h1 : σ 1 = .ptr j 0) (hj : H.obj j = .cells a.cells none) (h3 : σ 3 = .int .u8 v) (h4 : σ 4 = .int .i64 3) :
    ∃ σ', lp (evalCall tab (n + 12)) (n + 12) L44 (m + 1) s k σ H = lp (evalCall tab (n + 12)) (n + 12) L44 m s k σ' H ∧ σ' 1 = .ptr j 0 ∧ σ' 3 = .int .u8 (stA' (0 < a.x3) 8 v) ∧ σ' 4 = .int .i64 4 := by
  simp only [Mo.cells] at hj
  by_cases h : 0 < a.x3
  · refine ⟨?w2, ?e2, ?a2, ?b2, ?c2⟩
    case e2 => simp -implicitDefEqProofs [L44, AF44, h3, h1, h4, hj, h, iaddrA, call_85_3]; rfl
    all_goals simp [h3, h1, h4, h, stA']
  · refine ⟨?w3, ?e3, ?a3, ?b3, ?c3⟩
    case e3 => simp -implicitDefEqProofs [L44, AF44, h3, h1, h4, hj, h, iaddrA, call_85_3]; rfl
    all_goals simp [h3, h1, h4, h, stA']
theorem it_43_4 {call : CallFn} {n m : Nat} {s : List Itm} {k : KF} {σ : Sig} {H : Heap} {a : Mo} {v : Int} (h3 : σ 3 = .int .u8 v) (h6 : σ 6 = mono a) (h7 : σ 7 = .int .i64 4) :
    ∃ σ', lp call n L43 (m + 1) s k σ H = lp call n L43 m s k σ' H ∧ σ' 3 = .int .u8 (stO' (0 < a.x4) 16 v) ∧ σ' 6 = mono a ∧ σ' 7 = .int .i64 5 := by
  simp only [mono, Mo.cells] at h6
  by_cases h : 0 < a.x4
  · refine ⟨?w0, ?e0, ?a0, ?b0, ?c0⟩
    case e0 => simp -implicitDefEqProofs [L43, AF43, h3, h6, h7, h, -agg_mono, IntKind.bits]; rfl
    all_goals simp [h3, h6, h7, h, mono, Mo.cells, stO', orB, -agg_mono, IntKind.bits]
  · refine ⟨?w1, ?e1, ?a1, ?b1, ?c1⟩
    case e1 => simp -implicitDefEqProofs [L43, AF43, h3, h6, h7, h, -agg_mono, IntKind.bits]; rfl
    all_goals simp [h3, h6, h7, h, mono, Mo.cells, stO', orB, -agg_mono, IntKind.bits]
theorem call_85_4 {n : Nat} {H : Heap} : evalCall tab (n + 12) 85 [.int .i64 4] H = some (.int .u8 16, H) := by
  rw [call_enter tab_85 (by simp [AF85]) (.inr (by simp))]
  simp -implicitDefEqProofs [AF85, Nat.add_assoc]
theorem it_44_4 {n m j : Nat} {s : List Itm} {k : KF} {σ : Sig} {H : Heap} {a : Mo} {v : Int} (h1 : σ 1 = .ptr j 0) (hj : H.obj j = .cells a.cells none) (h3 : σ 3 = .int .u8 v) (h4 : σ 4 = .int .i64 4) :
    ∃ σ', lp (evalCall tab (n + 12)) (n + 12) L44 (m + 1) s k σ H = lp (evalCall tab (n + 12)) (n + 12) L44 m s k σ' H ∧ σ' 1 = .ptr j 0 ∧ σ' 3 = .int .u8 (stA' (0 < a.x4) 16 v) ∧ σ' 4 = .int .i64 5 := by
  simp only [Mo.cells] at hj
  by_cases h : 0 < a.x4
  · refine ⟨?w2, ?e2, ?a2, ?b2, ?c2⟩
    case e2 => simp -implicitDefEqProofs [L44, AF44, h3, h1, h4, hj, h, iaddrA, call_85_4]; rfl
    all_goals simp [h3, h1, h4, h, stA']
  · refine ⟨?w3, ?e3, ?a3, ?b3, ?c3⟩
    case e3 => simp -implicitDefEqProofs [L44, AF44, h3, h1, h4, hj, h, iaddrA, call_85_4]; rfl
    all_goals simp [h3, h1, h4, h, stA']
theorem it_43_5 {call : CallFn} {n m : Nat} {s : List Itm} {k : KF} {σ : Sig} {H : Heap} {a : Mo} {v : Int} (h3 : σ 3 = .int .u8 v) (h6 : σ 6 = mono a) (h7 : σ 7 = .int .i64 5) :
    ∃ σ', lp call n L43 (m + 1) s k σ H = lp call n L43 m s k σ' H ∧ σ' 3 = .int .u8 (stO' (0 < a.x5) 32 v) ∧ σ' 6 = mono a ∧ σ' 7 = .int .i64 6 := by
  simp only [mono, Mo.cells] at h6
  by_cases h : 0 < a.x5
  · refine ⟨?w0, ?e0, ?a0, ?b0, ?c0⟩
    case e0 => simp -implicitDefEqProofs [L43, AF43, h3, h6, h7, h, -agg_mono, IntKind.bits]; rfl
    all_goals simp [h3, h6, h7, h, mono, Mo.cells, stO', orB, -agg_mono, IntKind.bits]
  · refine ⟨?w1, ?e1, ?a1, ?b1, ?c1⟩
    case e1 => simp -implicitDefEqProofs [L43, AF43, h3, h6, h7, h, -agg_mono, IntKind.bits]; rfl
    all_goals simp [h3, h6, h7, h, mono, Mo.cells, stO', orB, -agg_mono, IntKind.bits]
theorem call_85_5 {n : Nat} {H : Heap} : evalCall tab (n + 12) 85 [.int .i64 5] H = some (.int .u8 32, H) := by
  rw [call_enter tab_85 (by simp [AF85]) (.inr (by simp))]
  simp -implicitDefEqProofs [AF85, Nat.add_assoc]
theorem it_44_5 {n m j : Nat} {s : List Itm} {k : KF} {σ : Sig} {H : Heap} {a : Mo} {v : Int} (h1 : σ 1 = .ptr j 0) (hj : H.obj j = .cells a.cells none) (h3 : σ 3 = .int .u8 v) (h4 : σ 4 = .int .i64 5) :
    ∃ σ', lp (evalCall tab (n + 12)) (n + 12) L44 (m + 1) s k σ H = lp (evalCall tab (n + 12)) (n + 12) L44 m s k σ' H ∧ σ' 1 = .ptr j 0 ∧ σ' 3 = .int .u8 (stA' (0 < a.x5) 32 v) ∧ σ' 4 = .int .i64 6 := by
  simp only [Mo.cells] at hj
  by_cases h : 0 < a.x5
  · refine ⟨?w2, ?e2, ?a2, ?b2, ?c2⟩
    case e2 => simp -implicitDefEqProofs [L44, AF44, h3, h1, h4, hj, h, iaddrA, call_85_5]; rfl
    all_goals simp [h3, h1, h4, h, stA']
  · refine ⟨?w3, ?e3, ?a3, ?b3, ?c3⟩
    case e3 => simp -implicitDefEqProofs [L44, AF44, h3, h1, h4, hj, h, iaddrA, call_85_5]; rfl
    all_goals simp [h3, h1, h4, h, stA']
theorem it_43_6 {call : CallFn} {n m : Nat} {s : List Itm} {k : KF} {σ : Sig} {H : Heap} {a : Mo} {v : Int} (h3 : σ 3 = .int .u8 v) (h6 : σ 6 = mono a) (h7 : σ 7 = .int .i64 6) :
    ∃ σ', lp call n L43 (m + 1) s k σ H = lp call n L43 m s k σ' H ∧ σ' 3 = .int .u8 (stO' (0 < a.x6) 64 v) ∧ σ' 6 = mono a ∧ σ' 7 = .int .i64 7 := by
  simp only [mono, Mo.cells] at h6
  by_cases h : 0 < a.x6
  · refine ⟨?w0, ?e0, ?a0, ?b0, ?c0⟩
    case e0 => simp -implicitDefEqProofs [L43, AF43, h3, h6, h7, h, -agg_mono, IntKind.bits]; rfl
    all_goals simp [h3, h6, h7, h, mono, Mo.cells, stO', orB, -agg_mono, IntKind.bits]
  · refine ⟨?w1, ?e1, ?a1, ?b1, ?c1⟩
    case e1 => simp -implicitDefEqProofs [L43, AF43, h3, h6, h7, h, -agg_mono, IntKind.bits]; rfl
    all_goals simp [h3, h6, h7, h, mono, Mo.cells, stO', orB, -agg_mono, IntKind.bits]
theorem call_85_6 {n : Nat} {H : Heap} : evalCall tab (n + 12) 85 [.int .i64 6] H = some (.int .u8 64, H) := by
  rw [call_enter tab_85 (by simp [AF85]) (.inr (by simp))]
  simp -implicitDefEqProofs [AF85, Nat.add_assoc]
theorem it_44_6 {n m j : Nat} {s : List Itm} {k : KF} {σ : Sig} {H : Heap} {a : Mo} {v : Int} (h1 : σ 1 = .ptr j 0) (hj : H.obj j = .cells a.cells none) (h3 : σ 3 = .int .u8 v) (h4 : σ 4 = .int .i64 6) :
    ∃ σ', lp (evalCall tab (n + 12)) (n + 12) L44 (m + 1) s k σ H = lp (evalCall tab (n + 12)) (n + 12) L44 m s k σ' H ∧ σ' 1 = .ptr j 0 ∧ σ' 3 = .int .u8 (stA' (0 < a.x6) 64 v) ∧ σ' 4 = .int .i64 7 := by
  simp only [Mo.cells] at hj
  by_cases h : 0 < a.x6
  · refine ⟨?w2, ?e2, ?a2, ?b2, ?c2⟩
    case e2 => simp -implicitDefEqProofs [L44, AF44, h3, h1, h4, hj, h, iaddrA, call_85_6]; rfl
    all_goals simp [h3, h1, h4, h, stA']
  · refine ⟨?w3, ?e3, ?a3, ?b3, ?c3⟩
    case e3 => simp -implicitDefEqProofs [L44, AF44, h3, h1, h4, hj, h, iaddrA, call_85_6]; rfl
    all_goals simp [h3, h1, h4, h, stA']
theorem it_43_7 {call : CallFn} {n m : Nat} {s : List Itm} {k : KF} {σ : Sig} {H : Heap} {a : Mo} {v : Int} (h3 : σ 3 = .int .u8 v) (h6 : σ 6 = mono a) (h7 : σ 7 = .int .i64 7) :
    ∃ σ', lp call n L43 (m + 1) s k σ H = lp call n L43 m s k σ' H ∧ σ' 3 = .int .u8 (stO' (0 < a.x7) 128 v) ∧ σ' 6 = mono a ∧ σ' 7 = .int .i64 8 := by
  simp only [mono, Mo.cells] at h6
  by_cases h : 0 < a.x7
  · refine ⟨?w0, ?e0, ?a0, ?b0, ?c0⟩
    case e0 => simp -implicitDefEqProofs [L43, AF43, h3, h6, h7, h, -agg_mono, IntKind.bits]; rfl
    all_goals simp [h3, h6, h7, h, mono, Mo.cells, stO', orB, -agg_mono, IntKind.bits]
  · refine ⟨?w1, ?e1, ?a1, ?b1, ?c1⟩
    case e1 => simp -implicitDefEqProofs [L43, AF43, h3, h6, h7, h, -agg_mono, IntKind.bits]; rfl
    all_goals simp [h3, h6, h7, h, mono, Mo.cells, stO', orB, -agg_mono, IntKind.bits]
theorem call_85_7 {n : Nat} {H : Heap} : evalCall tab (n + 12) 85 [.int .i64 7] H = some (.int .u8 128, H) := by
  rw [call_enter tab_85 (by simp [AF85]) (.inr (by simp))]
  simp -implicitDefEqProofs [AF85, Nat.add_assoc]
theorem it_44_7 {n m j : Nat} {s : List Itm} {k : KF} {σ : Sig} {H : Heap} {a : Mo} {v : Int} (h1 : σ 1 = .ptr j 0) (hj : H.obj j = .cells a.cells none) (h3 : σ 3 = .int .u8 v) (h4 : σ 4 = .int .i64 7) :
    ∃ σ', lp (evalCall tab (n + 12)) (n + 12) L44 (m + 1) s k σ H = lp (evalCall tab (n + 12)) (n + 12) L44 m s k σ' H ∧ σ' 1 = .ptr j 0 ∧ σ' 3 = .int .u8 (stA' (0 < a.x7) 128 v) ∧ σ' 4 = .int .i64 8 := by
  simp only [Mo.cells] at hj
  by_cases h : 0 < a.x7
  · refine ⟨?w2, ?e2, ?a2, ?b2, ?c2⟩
    case e2 => simp -implicitDefEqProofs [L44, AF44, h3, h1, h4, hj, h, iaddrA, call_85_7]; rfl
    all_goals simp [h3, h1, h4, h, stA']
  · refine ⟨?w3, ?e3, ?a3, ?b3, ?c3⟩
    case e3 => simp -implicitDefEqProofs [L44, AF44, h3, h1, h4, hj, h, iaddrA, call_85_7]; rfl
    all_goals simp [h3, h1, h4, h, stA']
theorem call_43 {a : Mo} {n : Nat} {H : Heap} : evalCall tab (n + 12) 43 [mono a] H = some (.int .u8 a.sup, H) := by
  rw [call_enter tab_43 (by simp [AF43]) (.inr (by simp))]
  simp -implicitDefEqProofs [AF43, Nat.add_assoc, -lp_succ]
  generalize hs : upd (upd _ 6 _) 7 _ = σ
  have g3 : σ 3 = .int .u8 0 := by subst hs; simp
  have g6 : σ 6 = mono a := by subst hs; simp
  have g7 : σ 7 = .int .i64 0 := by subst hs; simp
  clear hs
  obtain ⟨σ0, e0, k03, k06, k07⟩ := it_43_0 (call := evalCall tab (n + 11)) (n := n + 11) (m := n + 10) (s := _) (k := _) (H := _) g3 g6 g7
  obtain ⟨σ1, e1, k13, k16, k17⟩ := it_43_1 (call := evalCall tab (n + 11)) (n := n + 11) (m := n + 9) (s := _) (k := _) (H := _) k03 k06 k07
  obtain ⟨σ2, e2, k23, k26, k27⟩ := it_43_2 (call := evalCall tab (n + 11)) (n := n + 11) (m := n + 8) (s := _) (k := _) (H := _) k13 k16 k17
  obtain ⟨σ3, e3, k33, k36, k37⟩ := it_43_3 (call := evalCall tab (n + 11)) (n := n + 11) (m := n + 7) (s := _) (k := _) (H := _) k23 k26 k27
  obtain ⟨σ4, e4, k43, k46, k47⟩ := it_43_4 (call := evalCall tab (n + 11)) (n := n + 11) (m := n + 6) (s := _) (k := _) (H := _) k33 k36 k37
  obtain ⟨σ5, e5, k53, k56, k57⟩ := it_43_5 (call := evalCall tab (n + 11)) (n := n + 11) (m := n + 5) (s := _) (k := _) (H := _) k43 k46 k47
  obtain ⟨σ6, e6, k63, k66, k67⟩ := it_43_6 (call := evalCall tab (n + 11)) (n := n + 11) (m := n + 4) (s := _) (k := _) (H := _) k53 k56 k57
  obtain ⟨σ7, e7, k73, k76, k77⟩ := it_43_7 (call := evalCall tab (n + 11)) (n := n + 11) (m := n + 3) (s := _) (k := _) (H := _) k63 k66 k67
  simp only [L43, AF43] at e0 e1 e2 e3 e4 e5 e6 e7
  rw [e0, e1, e2, e3, e4, e5, e6, e7]
  simp -implicitDefEqProofs [k73, k76, k77, Mo.sup]
theorem call_44 {a : Mo} {n : Nat} {H : Heap} : evalCall tab (n + 14) 44 [mono a] H = some (.int .u8 a.sup', H) := by
  rw [call_enter tab_44 (by simp [AF44]) (.inr (by simp))]
  simp -implicitDefEqProofs [AF44, Nat.add_assoc, -lp_succ]
  generalize hs : upd (upd _ 3 _) 4 _ = σ
  have g1 : σ 1 = .ptr H.next 0 := by subst hs; simp
  have g3 : σ 3 = .int .u8 0 := by subst hs; simp
  have g4 : σ 4 = .int .i64 0 := by subst hs; simp
  clear hs
  have hj : (H.begin.new (AObj.cells a.cells none)).obj H.next = .cells a.cells none := by simp
  obtain ⟨σ0, e0, k01, k03, k04⟩ := it_44_0 (n := n + 1) (m := n + 12) (s := _) (k := _) g1 hj g3 g4
  obtain ⟨σ1, e1, k11, k13, k14⟩ := it_44_1 (n := n + 1) (m := n + 11) (s := _) (k := _) k01 hj k03 k04
  obtain ⟨σ2, e2, k21, k23, k24⟩ := it_44_2 (n := n + 1) (m := n + 10) (s := _) (k := _) k11 hj k13 k14
  obtain ⟨σ3, e3, k31, k33, k34⟩ := it_44_3 (n := n + 1) (m := n + 9) (s := _) (k := _) k21 hj k23 k24
  obtain ⟨σ4, e4, k41, k43, k44⟩ := it_44_4 (n := n + 1) (m := n + 8) (s := _) (k := _) k31 hj k33 k34
  obtain ⟨σ5, e5, k51, k53, k54⟩ := it_44_5 (n := n + 1) (m := n + 7) (s := _) (k := _) k41 hj k43 k44
  obtain ⟨σ6, e6, k61, k63, k64⟩ := it_44_6 (n := n + 1) (m := n + 6) (s := _) (k := _) k51 hj k53 k54
  obtain ⟨σ7, e7, k71, k73, k74⟩ := it_44_7 (n := n + 1) (m := n + 5) (s := _) (k := _) k61 hj k63 k64
  simp only [L44, AF44] at e0 e1 e2 e3 e4 e5 e6 e7
  rw [e0, e1, e2, e3, e4, e5, e6, e7]
  simp -implicitDefEqProofs [k71, k73, k74, Mo.sup']
end Go.Mach.Ytl
