/-
  Products of monomials. Written in part by a program. By an AI agent.
-/
import Derived.Test.YtlbihaiejbpjoaaCe
set_option linter.unusedSimpArgs false
set_option linter.unusedVariables false
set_option maxRecDepth 100000
namespace Go.Mach.Ytl
open Go.Mach

def L7 : ACode := match AF7.body with
  | .seq _ (.seq _ (.seq _ (.seq _ (.seq _ (.seq _ (.seq _ (.seq _ (.seq _ (.seq (.seq _ (.block _ (.loop c))) _))))))))) => c
  | _ => .skip
theorem it_7_0 {call : CallFn} {n m j1 j2 : Nat} {s : List Itm} {k : KF} {σ : Sig} {H : Heap} {a b : Mo} {v : Bool} (h8 : σ 8 = .ptr j1 0) (h9 : σ 9 = .ptr j2 0) (o1 : H.obj j1 = .cells a.cells none) (o2 : H.obj j2 = .cells b.cells none) (h15 : σ 15 = .bool v) (h16 : σ 16 = .int .i64 0) :
    ∃ σ', lp call n L7 (m + 1) s k σ H = lp call n L7 m s k σ' H ∧ σ' 15 = .bool (v || decide (65535 < iadd a.x0 b.x0)) ∧ σ' 16 = .int .i64 1 ∧ ∀ t, t < 15 → σ' t = σ t := by
  simp only [Mo.cells] at o1 o2
  cases v
  · by_cases h : 65535 < IntKind.i64.wrap (a.x0 + b.x0)
    · refine ⟨?w1, ?e1, ?a1, ?b1, ?c1⟩
      case e1 => simp -implicitDefEqProofs [L7, AF7, h8, h9, o1, o2, h15, h16, iaddrA, h]; rfl
      case c1 => intro t ht; have ne : ∀ k, 15 ≤ k → (t = k) = False := (fun k hk => eq_false (by omega)); simp [ne]
      all_goals simp [h15, h16, iadd, h]
    · refine ⟨?w2, ?e2, ?a2, ?b2, ?c2⟩
      case e2 => simp -implicitDefEqProofs [L7, AF7, h8, h9, o1, o2, h15, h16, iaddrA, h]; rfl
      case c2 => intro t ht; have ne : ∀ k, 15 ≤ k → (t = k) = False := (fun k hk => eq_false (by omega)); simp [ne]
      all_goals simp [h15, h16, iadd, h]
  · refine ⟨?w3, ?e3, ?a3, ?b3, ?c3⟩
    case e3 => simp -implicitDefEqProofs [L7, AF7, h8, h9, o1, o2, h15, h16, iaddrA]; rfl
    case c3 => intro t ht; have ne : ∀ k, 15 ≤ k → (t = k) = False := (fun k hk => eq_false (by omega)); simp [ne]
    all_goals simp [h15, h16, iadd]
theorem it_7_1 {call : CallFn} {n m j1 j2 : Nat} {s : List Itm} {k : KF} {σ : Sig} {H : Heap} {a b : Mo} {v : Bool} (h8 : σ 8 = .ptr j1 0) (h9 : σ 9 = .ptr j2 0) (o1 : H.obj j1 = .cells a.cells none) (o2 : H.obj j2 = .cells b.cells none) (h15 : σ 15 = .bool v) (h16 : σ 16 = .int .i64 1) :
    ∃ σ', lp call n L7 (m + 1) s k σ H = lp call n L7 m s k σ' H ∧ σ' 15 = .bool (v || decide (65535 < iadd a.x1 b.x1)) ∧ σ' 16 = .int .i64 2 ∧ ∀ t, t < 15 → σ' t = σ t := by
  simp only [Mo.cells] at o1 o2
  cases v
  · by_cases h : 65535 < IntKind.i64.wrap (a.x1 + b.x1)
    · refine ⟨?w1, ?e1, ?a1, ?b1, ?c1⟩
      case e1 => simp -implicitDefEqProofs [L7, AF7, h8, h9, o1, o2, h15, h16, iaddrA, h]; rfl
      case c1 => intro t ht; have ne : ∀ k, 15 ≤ k → (t = k) = False := (fun k hk => eq_false (by omega)); simp [ne]
      all_goals simp [h15, h16, iadd, h]
    · refine ⟨?w2, ?e2, ?a2, ?b2, ?c2⟩
      case e2 => simp -implicitDefEqProofs [L7, AF7, h8, h9, o1, o2, h15, h16, iaddrA, h]; rfl
      case c2 => intro t ht; have ne : ∀ k, 15 ≤ k → (t = k) = False := (fun k hk => eq_false (by omega)); simp [ne]
      all_goals simp [h15, h16, iadd, h]
  · refine ⟨?w3, ?e3, ?a3, ?b3, ?c3⟩
    case e3 => simp -implicitDefEqProofs [L7, AF7, h8, h9, o1, o2, h15, h16, iaddrA]; rfl
    case c3 => intro t ht; have ne : ∀ k, 15 ≤ k → (t = k) = False := (fun k hk => eq_false (by omega)); simp [ne]
    all_goals simp [h15, h16, iadd]
theorem it_7_2 {call : CallFn} {n m j1 j2 : Nat} {s : List Itm} {k : KF} {σ : Sig} {H : Heap} {a b : Mo} {v : Bool} (h8 : σ 8 = .ptr j1 0) (h9 : σ 9 = .ptr j2 0) (o1 : H.obj j1 = .cells a.cells none) (o2 : H.obj j2 = .cells b.cells none) (h15 : σ 15 = .bool v) (h16 : σ 16 = .int .i64 2) :
    ∃ σ', lp call n L7 (m + 1) s k σ H = lp call n L7 m s k σ' H ∧ σ' 15 = .bool (v || decide (65535 < iadd a.x2 b.x2)) ∧ σ' 16 = .int .i64 3 ∧ ∀ t, t < 15 → σ' t = σ t := by
  simp only [Mo.cells] at o1 o2
  cases v
  · by_cases h : 65535 < IntKind.i64.wrap (a.x2 + b.x2)
    · refine ⟨?w1, ?e1, ?a1, ?b1, ?c1⟩
      case e1 => simp -implicitDefEqProofs [L7, AF7, h8, h9, o1, o2, h15, h16, iaddrA, h]; rfl
      case c1 => intro t ht; have ne : ∀ k, 15 ≤ k → (t = k) = False := (fun k hk => eq_false (by omega)); simp [ne]
      all_goals simp [h15, h16, iadd, h]
    · refine ⟨?w2, ?e2, ?a2, ?b2, ?c2⟩
      case e2 => simp -implicitDefEqProofs [L7, AF7, h8, h9, o1, o2, h15, h16, iaddrA, h]; rfl
      case c2 => intro t ht; have ne : ∀ k, 15 ≤ k → (t = k) = False := (fun k hk => eq_false (by omega)); simp [ne]
      all_goals simp [h15, h16, iadd, h]
  · refine ⟨?w3, ?e3, ?a3, ?b3, ?c3⟩
    case e3 => simp -implicitDefEqProofs [L7, AF7, h8, h9, o1, o2, h15, h16, iaddrA]; rfl
    case c3 => intro t ht; have ne : ∀ k, 15 ≤ k → (t = k) = False := (fun k hk => eq_false (by omega)); simp [ne]
    all_goals simp [h15, h16, iadd]
theorem it_7_3 {call : CallFn} {n m j1 j2 : Nat} {s : List Itm} {k : KF} {σ : Sig} {H : Heap} {a b : Mo} {v : Bool} (h8 : σ 8 = .ptr j1 0) (h9 : σ 9 = .ptr j2 0) (o1 : H.obj j1 = .cells a.cells none) (o2 : H.obj j2 = .cells b.cells none) (h15 : σ 15 = .bool v) (h16 : σ 16 = .int .i64 3) :
    ∃ σ', lp call n L7 (m + 1) s k σ H = lp call n L7 m s k σ' H ∧ σ' 15 = .bool (v || decide (65535 < iadd a.x3 b.x3)) ∧ σ' 16 = .int .i64 4 ∧ ∀ t, t < 15 → σ' t = σ t := by
  simp only [Mo.cells] at o1 o2
  cases v
  · by_cases h : 65535 < IntKind.i64.wrap (a.x3 + b.x3)
    · refine ⟨?w1, ?e1, ?a1, ?b1, ?c1⟩
      case e1 => simp -implicitDefEqProofs [L7, AF7, h8, h9, o1, o2, h15, h16, iaddrA, h]; rfl
      case c1 => intro t ht; have ne : ∀ k, 15 ≤ k → (t = k) = False := (fun k hk => eq_false (by omega)); simp [ne]
      all_goals simp [h15, h16, iadd, h]
    · refine ⟨?w2, ?e2, ?a2, ?b2, ?c2⟩
      case e2 => simp -implicitDefEqProofs [L7, AF7, h8, h9, o1, o2, h15, h16, iaddrA, h]; rfl
      case c2 => intro t ht; have ne : ∀ k, 15 ≤ k → (t = k) = False := (fun k hk => eq_false (by omega)); simp [ne]
      all_goals simp [h15, h16, iadd, h]
  · refine ⟨?w3, ?e3, ?a3, ?b3, ?c3⟩
    case e3 => simp -implicitDefEqProofs [L7, AF7, h8, h9, o1, o2, h15, h16, iaddrA]; rfl
    case c3 => intro t ht; have ne : ∀ k, 15 ≤ k → (t = k) = False := (fun k hk => eq_false (by omega)); simp [ne]
    all_goals simp [h15, h16, iadd]
theorem it_7_4 {call : CallFn} {n m j1 j2 : Nat} {s : List Itm} {k : KF} {σ : Sig} {H : Heap} {a b : Mo} {v : Bool} (h8 : σ 8 = .ptr j1 0) (h9 : σ 9 = .ptr j2 0) (o1 : H.obj j1 = .cells a.cells none) (o2 : H.obj j2 = .cells b.cells none) (h15 : σ 15 = .bool v) (h16 : σ 16 = .int .i64 4) :
    ∃ σ', lp call n L7 (m + 1) s k σ H = lp call n L7 m s k σ' H ∧ σ' 15 = .bool (v || decide (65535 < iadd a.x4 b.x4)) ∧ σ' 16 = .int .i64 5 ∧ ∀ t, t < 15 → σ' t = σ t := by
  simp only [Mo.cells] at o1 o2
  cases v
  · by_cases h : 65535 < IntKind.i64.wrap (a.x4 + b.x4)
    · refine ⟨?w1, ?e1, ?a1, ?b1, ?c1⟩
      case e1 => simp -implicitDefEqProofs [L7, AF7, h8, h9, o1, o2, h15, h16, iaddrA, h]; rfl
      case c1 => intro t ht; have ne : ∀ k, 15 ≤ k → (t = k) = False := (fun k hk => eq_false (by omega)); simp [ne]
      all_goals simp [h15, h16, iadd, h]
    · refine ⟨?w2, ?e2, ?a2, ?b2, ?c2⟩
      case e2 => simp -implicitDefEqProofs [L7, AF7, h8, h9, o1, o2, h15, h16, iaddrA, h]; rfl
      case c2 => intro t ht; have ne : ∀ k, 15 ≤ k → (t = k) = False := (fun k hk => eq_false (by omega)); simp [ne]
      all_goals simp [h15, h16, iadd, h]
  · refine ⟨?w3, ?e3, ?a3, ?b3, ?c3⟩
    case e3 => simp -implicitDefEqProofs [L7, AF7, h8, h9, o1, o2, h15, h16, iaddrA]; rfl
    case c3 => intro t ht; have ne : ∀ k, 15 ≤ k → (t = k) = False := (fun k hk => eq_false (by omega)); simp [ne]
    all_goals simp [h15, h16, iadd]
theorem it_7_5 {call : CallFn} {n m j1 j2 : Nat} {s : List Itm} {k : KF} {σ : Sig} {H : Heap} {a b : Mo} {v : Bool} (h8 : σ 8 = .ptr j1 0) (h9 : σ 9 = .ptr j2 0) (o1 : H.obj j1 = .cells a.cells none) (o2 : H.obj j2 = .cells b.cells none) (h15 : σ 15 = .bool v) (h16 : σ 16 = .int .i64 5) :
    ∃ σ', lp call n L7 (m + 1) s k σ H = lp call n L7 m s k σ' H ∧ σ' 15 = .bool (v || decide (65535 < iadd a.x5 b.x5)) ∧ σ' 16 = .int .i64 6 ∧ ∀ t, t < 15 → σ' t = σ t := by
  simp only [Mo.cells] at o1 o2
  cases v
  · by_cases h : 65535 < IntKind.i64.wrap (a.x5 + b.x5)
    · refine ⟨?w1, ?e1, ?a1, ?b1, ?c1⟩
      case e1 => simp -implicitDefEqProofs [L7, AF7, h8, h9, o1, o2, h15, h16, iaddrA, h]; rfl
      case c1 => intro t ht; have ne : ∀ k, 15 ≤ k → (t = k) = False := (fun k hk => eq_false (by omega)); simp [ne]
      all_goals simp [h15, h16, iadd, h]
    · refine ⟨?w2, ?e2, ?a2, ?b2, ?c2⟩
      case e2 => simp -implicitDefEqProofs [L7, AF7, h8, h9, o1, o2, h15, h16, iaddrA, h]; rfl
      case c2 => intro t ht; have ne : ∀ k, 15 ≤ k → (t = k) = False := (fun k hk => eq_false (by omega)); simp [ne]
      all_goals simp [h15, h16, iadd, h]
  · refine ⟨?w3, ?e3, ?a3, ?b3, ?c3⟩
    case e3 => simp -implicitDefEqProofs [L7, AF7, h8, h9, o1, o2, h15, h16, iaddrA]; rfl
    case c3 => intro t ht; have ne : ∀ k, 15 ≤ k → (t = k) = False := (fun k hk => eq_false (by omega)); simp [ne]
    all_goals simp [h15, h16, iadd]
theorem it_7_6 {call : CallFn} {n m j1 j2 : Nat} {s : List Itm} {k : KF} {σ : Sig} {H : Heap} {a b : Mo} {v : Bool} (h8 : σ 8 = .ptr j1 0) (h9 : σ 9 = .ptr j2 0) (o1 : H.obj j1 = .cells a.cells none) (o2 : H.obj j2 = .cells b.cells none) (h15 : σ 15 = .bool v) (h16 : σ 16 = .int .i64 6) :
    ∃ σ', lp call n L7 (m + 1) s k σ H = lp call n L7 m s k σ' H ∧ σ' 15 = .bool (v || decide (65535 < iadd a.x6 b.x6)) ∧ σ' 16 = .int .i64 7 ∧ ∀ t, t < 15 → σ' t = σ t := by
  simp only [Mo.cells] at o1 o2
  cases v
  · by_cases h : 65535 < IntKind.i64.wrap (a.x6 + b.x6)
    · refine ⟨?w1, ?e1, ?a1, ?b1, ?c1⟩
      case e1 => simp -implicitDefEqProofs [L7, AF7, h8, h9, o1, o2, h15, h16, iaddrA, h]; rfl
      case c1 => intro t ht; have ne : ∀ k, 15 ≤ k → (t = k) = False := (fun k hk => eq_false (by omega)); simp [ne]
      all_goals simp [h15, h16, iadd, h]
    · refine ⟨?w2, ?e2, ?a2, ?b2, ?c2⟩
      case e2 => simp -implicitDefEqProofs [L7, AF7, h8, h9, o1, o2, h15, h16, iaddrA, h]; rfl
      case c2 => intro t ht; have ne : ∀ k, 15 ≤ k → (t = k) = False := (fun k hk => eq_false (by omega)); simp [ne]
      all_goals simp [h15, h16, iadd, h]
  · refine ⟨?w3, ?e3, ?a3, ?b3, ?c3⟩
    case e3 => simp -implicitDefEqProofs [L7, AF7, h8, h9, o1, o2, h15, h16, iaddrA]; rfl
    case c3 => intro t ht; have ne : ∀ k, 15 ≤ k → (t = k) = False := (fun k hk => eq_false (by omega)); simp [ne]
    all_goals simp [h15, h16, iadd]
theorem it_7_7 {call : CallFn} {n m j1 j2 : Nat} {s : List Itm} {k : KF} {σ : Sig} {H : Heap} {a b : Mo} {v : Bool} (h8 : σ 8 = .ptr j1 0) (h9 : σ 9 = .ptr j2 0) (o1 : H.obj j1 = .cells a.cells none) (o2 : H.obj j2 = .cells b.cells none) (h15 : σ 15 = .bool v) (h16 : σ 16 = .int .i64 7) :
    ∃ σ', lp call n L7 (m + 1) s k σ H = lp call n L7 m s k σ' H ∧ σ' 15 = .bool (v || decide (65535 < iadd a.x7 b.x7)) ∧ σ' 16 = .int .i64 8 ∧ ∀ t, t < 15 → σ' t = σ t := by
  simp only [Mo.cells] at o1 o2
  cases v
  · by_cases h : 65535 < IntKind.i64.wrap (a.x7 + b.x7)
    · refine ⟨?w1, ?e1, ?a1, ?b1, ?c1⟩
      case e1 => simp -implicitDefEqProofs [L7, AF7, h8, h9, o1, o2, h15, h16, iaddrA, h]; rfl
      case c1 => intro t ht; have ne : ∀ k, 15 ≤ k → (t = k) = False := (fun k hk => eq_false (by omega)); simp [ne]
      all_goals simp [h15, h16, iadd, h]
    · refine ⟨?w2, ?e2, ?a2, ?b2, ?c2⟩
      case e2 => simp -implicitDefEqProofs [L7, AF7, h8, h9, o1, o2, h15, h16, iaddrA, h]; rfl
      case c2 => intro t ht; have ne : ∀ k, 15 ≤ k → (t = k) = False := (fun k hk => eq_false (by omega)); simp [ne]
      all_goals simp [h15, h16, iadd, h]
  · refine ⟨?w3, ?e3, ?a3, ?b3, ?c3⟩
    case e3 => simp -implicitDefEqProofs [L7, AF7, h8, h9, o1, o2, h15, h16, iaddrA]; rfl
    case c3 => intro t ht; have ne : ∀ k, 15 ≤ k → (t = k) = False := (fun k hk => eq_false (by omega)); simp [ne]
    all_goals simp [h15, h16, iadd]
def Mo.big (a b : Mo) : Bool := ((((((((false || decide (65535 < iadd a.x0 b.x0)) || decide (65535 < iadd a.x1 b.x1)) || decide (65535 < iadd a.x2 b.x2)) || decide (65535 < iadd a.x3 b.x3)) || decide (65535 < iadd a.x4 b.x4)) || decide (65535 < iadd a.x5 b.x5)) || decide (65535 < iadd a.x6 b.x6)) || decide (65535 < iadd a.x7 b.x7))
theorem big_iff {a b : Mo} (ha : a.valid) (hb : b.valid) : Mo.big a b = !decide (Mo.map2 iadd a b).valid := by
  obtain ⟨a0, a1, a2, a3, a4, a5, a6, a7⟩ := ha
  obtain ⟨b0, b1, b2, b3, b4, b5, b6, b7⟩ := hb
  simp only [Mo.big, Mo.valid, Mo.map2, iadd_eq a0 b0, iadd_eq a1 b1, iadd_eq a2 b2, iadd_eq a3 b3, iadd_eq a4 b4, iadd_eq a5 b5, iadd_eq a6 b6, iadd_eq a7 b7]
  rw [Bool.eq_iff_iff]
  simp only [Bool.false_or, Bool.or_eq_true, decide_eq_true_eq, Bool.not_eq_true', decide_eq_false_iff_not]
  omega
theorem run_7 {call : CallFn} {n m j1 j2 : Nat} {s : List Itm} {k : KF} {σ : Sig} {H : Heap} {a b : Mo} (h8 : σ 8 = .ptr j1 0) (h9 : σ 9 = .ptr j2 0) (o1 : H.obj j1 = .cells a.cells none) (o2 : H.obj j2 = .cells b.cells none) (h15 : σ 15 = .bool false) (h16 : σ 16 = .int .i64 0) :
    ∃ σ', lp call n L7 (m + 8) s k σ H = lp call n L7 m s k σ' H ∧ σ' 15 = .bool (Mo.big a b) ∧ σ' 16 = .int .i64 8 ∧ ∀ t, t < 15 → σ' t = σ t := by
  obtain ⟨σ0, e0, k05, k06, k0t⟩ := it_7_0 (call := call) (n := n) (m := m + 7) (s := s) (k := k) h8 h9 o1 o2 h15 h16
  have q08 := (k0t 8 (by omega)).trans h8
  have q09 := (k0t 9 (by omega)).trans h9
  obtain ⟨σ1, e1, k15, k16, k1t⟩ := it_7_1 (call := call) (n := n) (m := m + 6) (s := s) (k := k) q08 q09 o1 o2 k05 k06
  have q18 := (k1t 8 (by omega)).trans q08
  have q19 := (k1t 9 (by omega)).trans q09
  obtain ⟨σ2, e2, k25, k26, k2t⟩ := it_7_2 (call := call) (n := n) (m := m + 5) (s := s) (k := k) q18 q19 o1 o2 k15 k16
  have q28 := (k2t 8 (by omega)).trans q18
  have q29 := (k2t 9 (by omega)).trans q19
  obtain ⟨σ3, e3, k35, k36, k3t⟩ := it_7_3 (call := call) (n := n) (m := m + 4) (s := s) (k := k) q28 q29 o1 o2 k25 k26
  have q38 := (k3t 8 (by omega)).trans q28
  have q39 := (k3t 9 (by omega)).trans q29
  obtain ⟨σ4, e4, k45, k46, k4t⟩ := it_7_4 (call := call) (n := n) (m := m + 3) (s := s) (k := k) q38 q39 o1 o2 k35 k36
  have q48 := (k4t 8 (by omega)).trans q38
  have q49 := (k4t 9 (by omega)).trans q39
  obtain ⟨σ5, e5, k55, k56, k5t⟩ := it_7_5 (call := call) (n := n) (m := m + 2) (s := s) (k := k) q48 q49 o1 o2 k45 k46
  have q58 := (k5t 8 (by omega)).trans q48
  have q59 := (k5t 9 (by omega)).trans q49
  obtain ⟨σ6, e6, k65, k66, k6t⟩ := it_7_6 (call := call) (n := n) (m := m + 1) (s := s) (k := k) q58 q59 o1 o2 k55 k56
  have q68 := (k6t 8 (by omega)).trans q58
  have q69 := (k6t 9 (by omega)).trans q59
  obtain ⟨σ7, e7, k75, k76, k7t⟩ := it_7_7 (call := call) (n := n) (m := m + 0) (s := s) (k := k) q68 q69 o1 o2 k65 k66
  have q78 := (k7t 8 (by omega)).trans q68
  have q79 := (k7t 9 (by omega)).trans q69
  refine ⟨σ7, ?_, k75, k76, fun t ht => ?_⟩
  · exact e0.trans (e1.trans (e2.trans (e3.trans (e4.trans (e5.trans (e6.trans e7))))))
  · rw [k7t t ht, k6t t ht, k5t t ht, k4t t ht, k3t t ht, k2t t ht, k1t t ht, k0t t ht]

/-! ### Degrees and supports of products -/
theorem deg_eq {a : Mo} (h : a.valid) : a.deg = a.x0 + a.x1 + a.x2 + a.x3 + a.x4 + a.x5 + a.x6 + a.x7 ∧ 0 ≤ a.deg ∧ a.deg ≤ 524280 := by
  obtain ⟨a0, a1, a2, a3, a4, a5, a6, a7⟩ := h
  have e : a.deg = a.x0 + a.x1 + a.x2 + a.x3 + a.x4 + a.x5 + a.x6 + a.x7 := by
    have key : ∀ p q : Int, 0 ≤ p → p ≤ 600000 → 0 ≤ q → q ≤ 65535 → iadd p q = p + q := fun p q h1 h2 h3 h4 => wrap_int (by omega) (by omega)
    simp only [Mo.deg]
    rw [key (0) a.x0 (by omega) (by omega) (by omega) (by omega)]
    rw [key (0 + a.x0) a.x1 (by omega) (by omega) (by omega) (by omega)]
    rw [key (0 + a.x0 + a.x1) a.x2 (by omega) (by omega) (by omega) (by omega)]
    rw [key (0 + a.x0 + a.x1 + a.x2) a.x3 (by omega) (by omega) (by omega) (by omega)]
    rw [key (0 + a.x0 + a.x1 + a.x2 + a.x3) a.x4 (by omega) (by omega) (by omega) (by omega)]
    rw [key (0 + a.x0 + a.x1 + a.x2 + a.x3 + a.x4) a.x5 (by omega) (by omega) (by omega) (by omega)]
    rw [key (0 + a.x0 + a.x1 + a.x2 + a.x3 + a.x4 + a.x5) a.x6 (by omega) (by omega) (by omega) (by omega)]
    rw [key (0 + a.x0 + a.x1 + a.x2 + a.x3 + a.x4 + a.x5 + a.x6) a.x7 (by omega) (by omega) (by omega) (by omega)]
    omega
  rw [e]; omega
theorem deg_add {a b : Mo} (ha : a.valid) (hb : b.valid) (hp : (Mo.map2 iadd a b).valid) : (Mo.map2 iadd a b).deg = IntKind.i64.wrap (a.deg + b.deg) := by
  have h1 := deg_eq ha
  have h2 := deg_eq hb
  rw [(deg_eq hp).1, wrap_int (by omega) (by omega), h1.1, h2.1]
  obtain ⟨a0, a1, a2, a3, a4, a5, a6, a7⟩ := ha
  obtain ⟨b0, b1, b2, b3, b4, b5, b6, b7⟩ := hb
  simp only [Mo.map2, iadd_eq a0 b0, iadd_eq a1 b1, iadd_eq a2 b2, iadd_eq a3 b3, iadd_eq a4 b4, iadd_eq a5 b5, iadd_eq a6 b6, iadd_eq a7 b7]
  omega
def bitN (p : Prop) [Decidable p] (w : Nat) : Nat := if p then w else 0
def Mo.supN (a : Mo) : Nat := bitN (0 < a.x0) 1 ||| bitN (0 < a.x1) 2 ||| bitN (0 < a.x2) 4 ||| bitN (0 < a.x3) 8 ||| bitN (0 < a.x4) 16 ||| bitN (0 < a.x5) 32 ||| bitN (0 < a.x6) 64 ||| bitN (0 < a.x7) 128
theorem sup_nat {a : Mo} : a.sup = (a.supN : Int) ∧ a.supN < 256 := by
  obtain ⟨a0, a1, a2, a3, a4, a5, a6, a7⟩ := a
  simp only [Mo.sup, Mo.supN, stO', bitN]
  by_cases h0 : 0 < a0 <;> by_cases h1 : 0 < a1 <;> by_cases h2 : 0 < a2 <;> by_cases h3 : 0 < a3 <;> by_cases h4 : 0 < a4 <;> by_cases h5 : 0 < a5 <;> by_cases h6 : 0 < a6 <;> by_cases h7 : 0 < a7 <;>
    simp only [h0, h1, h2, h3, h4, h5, h6, h7, if_true, if_false] <;> exact ⟨rfl, by decide⟩
theorem bit_or {p q : Prop} [Decidable p] [Decidable q] {w : Nat} : bitN (p ∨ q) w = bitN p w ||| bitN q w := by
  unfold bitN
  by_cases hp : p <;> by_cases hq : q <;> simp [hp, hq]
theorem supN_add {a b : Mo} (ha : a.valid) (hb : b.valid) : (Mo.map2 iadd a b).supN = a.supN ||| b.supN := by
  have key : ∀ p q : Int, (0 ≤ p ∧ p ≤ 65535) → (0 ≤ q ∧ q ≤ 65535) → (0 < iadd p q) = (0 < p ∨ 0 < q) := fun p q hp hq => by
    rw [iadd_eq hp hq]; apply propext; constructor <;> intro h <;> omega
  obtain ⟨a0, a1, a2, a3, a4, a5, a6, a7⟩ := ha
  obtain ⟨b0, b1, b2, b3, b4, b5, b6, b7⟩ := hb
  simp only [Mo.supN, Mo.map2, key _ _ a0 b0, key _ _ a1 b1, key _ _ a2 b2, key _ _ a3 b3, key _ _ a4 b4, key _ _ a5 b5, key _ _ a6 b6, key _ _ a7 b7, bit_or]
  ac_rfl
theorem or_nat {u v : Nat} (hu : u < 256) (hv : v < 256) : IntKind.u8.wrap ((BitVec.ofInt IntKind.u8.bits (u : Int) ||| BitVec.ofInt IntKind.u8.bits (v : Int)).toNat : Int) = ((u ||| v : Nat) : Int) := by
  have e : (BitVec.ofInt IntKind.u8.bits (u : Int) ||| BitVec.ofInt IntKind.u8.bits (v : Int)).toNat = u ||| v := by
    rw [BitVec.toNat_or, BitVec.ofInt_natCast, BitVec.ofInt_natCast, BitVec.toNat_ofNat, BitVec.toNat_ofNat]
    show u % 2 ^ 8 ||| v % 2 ^ 8 = u ||| v
    rw [Nat.mod_eq_of_lt (show u < 2 ^ 8 by omega), Nat.mod_eq_of_lt (show v < 2 ^ 8 by omega)]
  rw [e]
  have hlt : u ||| v < 2 ^ 8 := Nat.or_lt_two_pow (by omega) (by omega)
  exact wrap_byte (by omega) (by omega)
theorem sup_add {a b : Mo} (ha : a.valid) (hb : b.valid) : (Mo.map2 iadd a b).sup = IntKind.u8.wrap ((BitVec.ofInt IntKind.u8.bits a.sup ||| BitVec.ofInt IntKind.u8.bits b.sup).toNat : Int) := by
  rw [(sup_nat (a := a)).1, (sup_nat (a := b)).1, (sup_nat (a := Mo.map2 iadd a b)).1, or_nat sup_nat.2 sup_nat.2, supN_add ha hb]
theorem add_zero {a : Mo} (ha : a.valid) : Mo.map2 iadd a Mo.zero = a := by
  obtain ⟨a0, a1, a2, a3, a4, a5, a6, a7⟩ := ha
  obtain ⟨x0, x1, x2, x3, x4, x5, x6, x7⟩ := a
  have z : (0 : Int) ≤ 0 ∧ (0 : Int) ≤ 65535 := by omega
  simp only [Mo.map2, Mo.zero, iadd_eq a0 z, iadd_eq a1 z, iadd_eq a2 z, iadd_eq a3 z, iadd_eq a4 z, iadd_eq a5 z, iadd_eq a6 z, iadd_eq a7 z, Int.add_zero]
theorem add_assoc' {a b c : Mo} (hp : (Mo.map2 iadd a b).valid) (hs : (Mo.map2 iadd b c).valid) (ha : a.valid) (hb : b.valid) (hc : c.valid) : Mo.map2 iadd (Mo.map2 iadd a b) c = Mo.map2 iadd a (Mo.map2 iadd b c) := by
  have key : ∀ p q r : Int, (0 ≤ p ∧ p ≤ 65535) → (0 ≤ q ∧ q ≤ 65535) → (0 ≤ r ∧ r ≤ 65535) → iadd (iadd p q) r = iadd p (iadd q r) := fun p q r hp hq hr => by
    rw [iadd_eq hp hq, iadd_eq hq hr]; unfold iadd; rw [wrap_int (by omega) (by omega), wrap_int (by omega) (by omega)]; omega
  obtain ⟨a0, a1, a2, a3, a4, a5, a6, a7⟩ := ha
  obtain ⟨b0, b1, b2, b3, b4, b5, b6, b7⟩ := hb
  obtain ⟨c0, c1, c2, c3, c4, c5, c6, c7⟩ := hc
  simp only [Mo.map2, Mo.mk.injEq]
  exact ⟨key _ _ _ a0 b0 c0, key _ _ _ a1 b1 c1, key _ _ _ a2 b2 c2, key _ _ _ a3 b3 c3, key _ _ _ a4 b4 c4, key _ _ _ a5 b5 c5, key _ _ _ a6 b6 c6, key _ _ _ a7 b7 c7⟩
theorem le_add {a b : Mo} (ha : a.valid) (hb : b.valid) : Mo.le b (Mo.map2 iadd a b) := by
  obtain ⟨a0, a1, a2, a3, a4, a5, a6, a7⟩ := ha
  obtain ⟨b0, b1, b2, b3, b4, b5, b6, b7⟩ := hb
  simp only [Mo.le, Mo.map2, iadd_eq a0 b0, iadd_eq a1 b1, iadd_eq a2 b2, iadd_eq a3 b3, iadd_eq a4 b4, iadd_eq a5 b5, iadd_eq a6 b6, iadd_eq a7 b7]
  omega
end Go.Mach.Ytl
