/-
  Pruned copy of the text Qd. By an AI agent.
-/
import Derived.Test.YtlbihaiejbpjoaaZ3Qa
import Derived.Test.YtlbihaiejbpjoaaZ3Pd
import Derived.Test.YtlbihaiejbpjoaaZ3Ct
set_option linter.unusedSimpArgs false
set_option linter.unusedVariables false
set_option maxRecDepth 100000
namespace Go.Mach.Ytl
open Go.Mach
section
variable {s : List Jtm} {k : KF} {Q : AV → Heap → Prop}
def Stb (Hs : Heap) (v : AV) (X : List Mo) : Prop := ∀ H, Ow Hs H → Rd tM H v X
theorem ML.stb {Hs : Heap} {v : AV} {X : List Mo} (h : ML tM v X) : Stb Hs v X := fun H _ => h.rd H
theorem acc_stb {H0 Hs : Heap} {v : AV} {X : List Mo} (h : Acc tM H0 Hs v X) : Stb Hs v X := fun H ho => (h.other ho.next fun i _ hi => ho.obj i hi).rd
end
end Go.Mach.Ytl
set_option linter.unusedSimpArgs false
set_option linter.unusedVariables false
set_option maxRecDepth 100000
namespace Go.Mach.Ytl
open Go.Mach
section
variable {s : List Jtm} {k : KF} {Q : AV → Heap → Prop}
def Box (n : Nat) (m : Mo) : Prop := ∀ q, 0 ≤ m.get q ∧ m.get q ≤ 3 ∧ (n ≤ q → m.get q = 0)
theorem zero_get : ∀ q, Mo.zero.get q = 0 := fun q => by
  match q with
  | 0 | 1 | 2 | 3 | 4 | 5 | 6 | 7 => rfl
  | q + 8 => rfl
end
end Go.Mach.Ytl
set_option linter.unusedSimpArgs false
set_option linter.unusedVariables false
set_option maxRecDepth 100000
namespace Go.Mach.Ytl
open Go.Mach
section
variable {s : List Jtm} {k : KF} {Q : AV → Heap → Prop}
end
end Go.Mach.Ytl
set_option linter.unusedSimpArgs false
set_option linter.unusedVariables false
set_option maxRecDepth 100000
namespace Go.Mach.Ytl
open Go.Mach
theorem le_get {a b : Mo} : Mo.le a b ↔ ∀ q, q < 8 → a.get q ≤ b.get q := by
  unfold Mo.le
  constructor
  · rintro ⟨h0, h1, h2, h3, h4, h5, h6, h7⟩ q hq
    match q, hq with
    | 0, _ => exact h0
    | 1, _ => exact h1
    | 2, _ => exact h2
    | 3, _ => exact h3
    | 4, _ => exact h4
    | 5, _ => exact h5
    | 6, _ => exact h6
    | 7, _ => exact h7
  · intro h
    exact ⟨h 0 (by omega), h 1 (by omega), h 2 (by omega), h 3 (by omega), h 4 (by omega), h 5 (by omega), h 6 (by omega), h 7 (by omega)⟩
theorem nn_get {a : Mo} : a.nn ↔ ∀ q, q < 8 → 0 ≤ a.get q := by
  unfold Mo.nn
  constructor
  · rintro ⟨h0, h1, h2, h3, h4, h5, h6, h7⟩ q hq
    match q, hq with
    | 0, _ => exact h0
    | 1, _ => exact h1
    | 2, _ => exact h2
    | 3, _ => exact h3
    | 4, _ => exact h4
    | 5, _ => exact h5
    | 6, _ => exact h6
    | 7, _ => exact h7
  · intro h
    exact ⟨h 0 (by omega), h 1 (by omega), h 2 (by omega), h 3 (by omega), h 4 (by omega), h 5 (by omega), h 6 (by omega), h 7 (by omega)⟩
theorem map2_get {f : Int → Int → Int} {a b : Mo} {q : Nat} (h : q < 8) : (Mo.map2 f a b).get q = f (a.get q) (b.get q) := by
  match q, h with
  | 0, _ | 1, _ | 2, _ | 3, _ | 4, _ | 5, _ | 6, _ | 7, _ => rfl
theorem dvd_eq {a c : Mo} : dvd a c = decide (Mo.le a c) := by rw [Bool.eq_iff_iff, dvd_iff, decide_eq_true_eq]
theorem Box.nn {n : Nat} {a : Mo} (h : Box n a) : a.nn := nn_get.2 fun q _ => (h q).1
theorem max_nn {a b : Mo} (ha : a.nn) (hb : b.nn) : (Mo.map2 imax a b).nn := nn_get.2 fun q hq => by
  rw [map2_get hq]; have := nn_get.1 ha q hq; have := nn_get.1 hb q hq; unfold imax; split <;> omega
theorem lcms_mem {L M : List Mo} {x : Mo} : x ∈ lcms L M ↔ ∃ a ∈ L, ∃ b ∈ M, Mo.map2 imax a b = x := by simp [lcms]
theorem lcms_any {L M : List Mo} {t : Mo} : ((lcms L M).any fun x => decide (Mo.le x t)) = ((L.any fun x => decide (Mo.le x t)) && (M.any fun x => decide (Mo.le x t))) := by
  rw [Bool.eq_iff_iff, Bool.and_eq_true, List.any_eq_true, List.any_eq_true, List.any_eq_true]
  simp only [decide_eq_true_eq, lcms_mem]
  constructor
  · rintro ⟨x, ⟨a, ha, b, hb, rfl⟩, h⟩
    rw [max_le_iff] at h
    exact ⟨⟨a, ha, h.1⟩, b, hb, h.2⟩
  · rintro ⟨⟨a, ha, h1⟩, b, hb, h2⟩
    exact ⟨_, ⟨a, ha, b, hb, rfl⟩, max_le_iff.2 ⟨h1, h2⟩⟩
theorem IsMin.any_le {l r : List Mo} (h : IsMin l r) (hl : ∀ x ∈ l, x.nn) (y : Mo) : (r.any fun a => decide (Mo.le a y)) = l.any fun a => decide (Mo.le a y) := by
  have := h.any hl y
  simp only [dvd_eq] at this
  exact this.symm
theorem IsMin.self {l r : List Mo} (h : IsMin l r) : IsMin r r := ⟨h.desc, fun m => ⟨fun hm => ⟨hm, fun d hd hle => ((h.mem m).1 hm).2 d (h.sub hd) hle⟩, fun hm => hm.1⟩⟩
section
variable {s : List Jtm} {k : KF} {Q : AV → Heap → Prop}
end
end Go.Mach.Ytl
