/-
  Pruned copy of the text Pa Pd. By an AI agent.
-/
import Derived.Test.YtlbihaiejbpjoaaGreatZ10Nn
import Derived.Test.YtlbihaiejbpjoaaGreatZ10Cs
set_option linter.unusedSimpArgs false
set_option linter.unusedVariables false
set_option maxRecDepth 100000
namespace Go.Mach.Ytl
open Go.Mach
def Mo.setI (m : Mo) (i : Nat) (x : Int) : Mo := match i with
  | 0 => { m with x0 := x }
  | 1 => { m with x1 := x }
  | 2 => { m with x2 := x }
  | 3 => { m with x3 := x }
  | 4 => { m with x4 := x }
  | 5 => { m with x5 := x }
  | 6 => { m with x6 := x }
  | 7 => { m with x7 := x }
  | _ => m
def Mo.get (m : Mo) (i : Nat) : Int := match i with
  | 0 => m.x0
  | 1 => m.x1
  | 2 => m.x2
  | 3 => m.x3
  | 4 => m.x4
  | 5 => m.x5
  | 6 => m.x6
  | 7 => m.x7
  | _ => 0
theorem set_cells {m : Mo} {i : Nat} {x : Int} (h : i < 8) : m.cells.set i (.int .i64 x) = (m.setI i x).cells := by
  match i, h with
  | 0, _ | 1, _ | 2, _ | 3, _ | 4, _ | 5, _ | 6, _ | 7, _ => rfl
theorem get_set {m : Mo} {i j : Nat} {x : Int} (h : i < 8) : (m.setI i x).get j = if j = i then x else m.get j := by
  match i, h with
  | 0, _ | 1, _ | 2, _ | 3, _ | 4, _ | 5, _ | 6, _ | 7, _ =>
    match j with
    | 0 | 1 | 2 | 3 | 4 | 5 | 6 | 7 => rfl
    | j + 8 => simp [Mo.get]
theorem get_cells {m : Mo} {i : Nat} (h : i < 8) : m.cells[i]? = some (.int .i64 (m.get i)) := by
  match i, h with
  | 0, _ | 1, _ | 2, _ | 3, _ | 4, _ | 5, _ | 6, _ | 7, _ => rfl
theorem Mo.ext' {m m' : Mo} (h : ∀ j, j < 8 → m.get j = m'.get j) : m = m' := by
  obtain ⟨a0, a1, a2, a3, a4, a5, a6, a7⟩ := m
  obtain ⟨b0, b1, b2, b3, b4, b5, b6, b7⟩ := m'
  rw [Mo.mk.injEq]
  exact ⟨h 0 (by omega), h 1 (by omega), h 2 (by omega), h 3 (by omega), h 4 (by omega), h 5 (by omega), h 6 (by omega), h 7 (by omega)⟩
structure Ids where
  pn : Nat
  po : Nat
  pm : Nat
  pf : Nat
namespace Ids
variable (I : Ids)
structure S (H0 H : Heap) (m : Mo) (L : List Mo) : Prop where
  next : H0.next ≤ H.next
  bb : H0.base ≤ H.base
  old : ∀ i, i < H0.next → i ≠ I.pm → i ≠ I.po → H.obj i = H0.obj i
  mm : H.obj I.pm = .cells m.cells none
  out : ∃ v, H.obj I.po = .cells [v] none ∧ Acc tM H0 H v L
def New (b : Nat) (v : AV) : Prop := ∃ id off len lo ex e, v = .sl id off len lo ex e ∧ b ≤ id
structure Tr (H0 H H' : Heap) : Prop where
  next : H.next ≤ H'.next
  base : H'.base = H.base
  sub : ∀ i ∈ H.ws, i ∈ H'.ws
  log : ∀ i, i < H.base → i ∉ H'.ws → H'.obj i = H.obj i
  wsI : ∀ i ∈ H'.ws, i ∈ H.ws ∨ (H0.base ≤ i ∧ i < H.base)
  alt : (H'.obj I.po = H.obj I.po ∧ ∀ i ∈ H'.ws, i ∈ H.ws ∨ i = I.pm) ∨ (∃ v, H'.obj I.po = .cells [v] none ∧ New H.next v ∧ (I.po < H.base → I.po ∈ H'.ws))
variable {I} {H0 H H1 H2 : Heap}
theorem Tr.refl : I.Tr H0 H H := ⟨Nat.le_refl _, rfl, fun _ h => h, fun _ _ _ => rfl, fun _ h => .inl h, .inl ⟨rfl, fun _ h => .inl h⟩⟩
theorem Tr.trans (a : I.Tr H0 H H1) (b : I.Tr H0 H1 H2) : I.Tr H0 H H2 where
  next := Nat.le_trans a.next b.next
  base := b.base.trans a.base
  sub i h := b.sub i (a.sub i h)
  log i h1 h2 := (b.log i (by rw [a.base]; exact h1) h2).trans (a.log i h1 fun h => h2 (b.sub i h))
  wsI i h := by
    rcases b.wsI i h with h | ⟨h1, h2⟩
    · exact a.wsI i h
    · exact .inr ⟨h1, by rw [← a.base]; exact h2⟩
  alt := by
    rcases b.alt with ⟨e1, e2⟩ | ⟨v, e1, ⟨id, off, len, lo, ex, e, e2, e3⟩, e4⟩
    · rcases a.alt with ⟨f1, f2⟩ | ⟨v, f1, f2, f3⟩
      · refine .inl ⟨e1.trans f1, fun i h => ?_⟩
        rcases e2 i h with h | h
        · exact f2 i h
        · exact .inr h
      · exact .inr ⟨v, e1.trans f1, f2, fun h => b.sub _ (f3 h)⟩
    · exact .inr ⟨v, e1, ⟨id, off, len, lo, ex, e, e2, Nat.le_trans a.next e3⟩, fun h => e4 (by rw [a.base]; exact h)⟩
end Ids
end Go.Mach.Ytl
set_option linter.unusedSimpArgs false
set_option linter.unusedVariables false
set_option maxRecDepth 100000
namespace Go.Mach.Ytl
open Go.Mach
namespace Ids
variable {I : Ids} {H0 H H1 H2 H3 : Heap}
end Ids
theorem iaddr_arr {n e id off : Nat} {k : IntKind} {i : Nat} (h : i < n) : iaddrA (some n) e (.ptr id off) (.int k i) = some (.ptr id (off + i * e)) := by
  simp only [iaddrA]; rw [if_pos (by omega)]; simp
theorem storeI {H : Heap} {m : Mo} {rel : Option Nat} {id i : Nat} {x : Int} (h : i < 8) : stO H 1 id i (.cells m.cells rel) (some [.int .i64 x]) = some ((H.kill rel).set id (.cells (m.setI i x).cells none)) := by
  rw [stO_some, if_pos ⟨rfl, by show i + 1 ≤ 8; omega⟩, put_cons, put_nil, set_cells h]
section
variable {I : Ids} {H0 : Heap} {n : Nat} {s : List Jtm} {k : KF} {Q : AV → Heap → Prop}
open Ids
end
end Go.Mach.Ytl
set_option linter.unusedSimpArgs false
set_option linter.unusedVariables false
set_option maxRecDepth 100000
namespace Go.Mach
namespace Ytl
section
variable {Q : AV → Heap → Prop}
end
end Ytl
end Go.Mach
set_option linter.unusedSimpArgs false
set_option linter.unusedVariables false
set_option maxRecDepth 100000
namespace Go.Mach.Ytl
open Go.Mach
section
variable {s : List Jtm} {k : KF} {Q : AV → Heap → Prop}
theorem loadI {m : Mo} {i : Nat} (h : i < 8) : part false 1 m.cells i = some (.int .i64 (m.get i)) := by
  rw [part_false]; exact get_cells h
theorem call_45' {a : Mo} {H : Heap} : callI tab 24 [mono a] H = some (.bool (decide a.valid), H) := callI_of (call_45 (n := 0))
theorem valid_get {m : Mo} : m.valid ↔ ∀ q, q < 8 → 0 ≤ m.get q ∧ m.get q ≤ 65535 := by
  unfold Mo.valid
  constructor
  · rintro ⟨h0, h1, h2, h3, h4, h5, h6, h7⟩ q hq
    match q, hq with
    | 0, _ => exact h0
    | 1, _ => exact h1
    | 2, _ => exact h2
    | 3, _ => exact h3
    | 4, _ => exact h4
    | 5, _ => exact h5
    | 6, _ => exact h6
    | 7, _ => exact h7
  · intro h
    exact ⟨h 0 (by omega), h 1 (by omega), h 2 (by omega), h 3 (by omega), h 4 (by omega), h 5 (by omega), h 6 (by omega), h 7 (by omega)⟩
end
end Go.Mach.Ytl
