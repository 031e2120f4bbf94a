/-
  Pruned copy of the text Qa. By an AI agent.
-/
import Derived.Test.YtlbihaiejbpjoaaZ4Nn
import Derived.Test.YtlbihaiejbpjoaaZ4Pd
set_option linter.unusedSimpArgs false
set_option linter.unusedVariables false
set_option maxRecDepth 100000
namespace Go.Mach
inductive AccP {α : Type} (t : Ty α) (own : Nat → Prop) (H : Heap) : AV → List α → Prop
  | nil : AccP t own H .nils []
  | vec : AccP t own H (.vec 0 true []) []
  | live (id : Nat) (rel : Option Nat) (l : List α) (n : Nat) : n = l.length → H.obj id = .cells (t.row l) rel → own id → id < H.next → (∀ r, rel = some r → own r ∧ r ≠ id ∧ r < H.next) → l ≠ [] → AccP t own H (.sl id 0 n n false t.e) l
structure Df (own : Nat → Prop) (H H' : Heap) : Prop where
  obj : ∀ i, i < H.next → ¬ own i → H'.obj i = H.obj i
  next : H.next ≤ H'.next
  base : H'.base = H.base
  ws : (∀ i, own i → H.base ≤ i) → H.base ≤ H.next → H'.ws = H.ws
  wi : ∀ i ∈ H'.ws, i ∈ H.ws ∨ own i ∨ H.next ≤ i
theorem Df.refl {own : Nat → Prop} {H : Heap} : Df own H H := ⟨fun _ _ _ => rfl, Nat.le_refl _, rfl, fun _ _ => rfl, fun _ h => .inl h⟩
theorem Df.trans {own : Nat → Prop} {H H1 H2 : Heap} (a : Df own H H1) (b : Df own H1 H2) : Df own H H2 where
  obj i h1 h2 := (b.obj i (Nat.lt_of_lt_of_le h1 a.next) h2).trans (a.obj i h1 h2)
  next := Nat.le_trans a.next b.next
  base := b.base.trans a.base
  ws h1 h2 := (b.ws (by rw [a.base]; exact h1) (by rw [a.base]; exact Nat.le_trans h2 a.next)).trans (a.ws h1 h2)
  wi i h := by
    rcases b.wi i h with h | h | h
    · exact a.wi i h
    · exact .inr (.inl h)
    · exact .inr (.inr (Nat.le_trans a.next h))
theorem Df.new {own : Nat → Prop} {H H1 : Heap} (a : Df own H H1) (o : AObj) : Df own H (H1.new o) where
  obj i h1 h2 := by have := a.next; simp only [Heap.new, upd]; rw [if_neg (by omega), a.obj i h1 h2]
  next := by have := a.next; simp only [Heap.new]; omega
  base := a.base
  ws := a.ws
  wi := a.wi
theorem Df.set {own : Nat → Prop} {H H1 : Heap} (a : Df own H H1) {id : Nat} (o : AObj) (hid : own id ∨ H.next ≤ id) : Df own H (H1.set id o) where
  obj i h1 h2 := by
    simp only [Heap.set, upd]
    rw [if_neg (fun e => by subst e; rcases hid with h | h; exact h2 h; omega), a.obj i h1 h2]
  next := a.next
  base := a.base
  ws h1 h2 := by
    have := a.base
    have h3 : H.base ≤ id := by
      rcases hid with h | h
      · exact h1 id h
      · omega
    simp only [Heap.set]; rw [if_neg (by omega)]; exact a.ws h1 h2
  wi i h := by
    simp only [Heap.set] at h
    split at h
    · rcases List.mem_cons.1 h with rfl | h
      · exact .inr hid
      · exact a.wi i h
    · exact a.wi i h
theorem Df.kill {own : Nat → Prop} {H H1 : Heap} (a : Df own H H1) {rel : Option Nat} (hr : ∀ r, rel = some r → own r) : Df own H (H1.kill rel) := by
  cases rel with
  | none => exact a
  | some r => exact a.set _ (.inl (hr r rfl))
theorem Df.mono {own own' : Nat → Prop} {H H' : Heap} (a : Df own H H') (h : ∀ i, own i → i < H.next → own' i) (hw : H'.ws = H.ws ∨ ((∀ i, own' i → H.base ≤ i) → ∀ i, own i → H.base ≤ i)) : Df own' H H' where
  obj i h1 h2 := a.obj i h1 fun h3 => h2 (h i h3 h1)
  next := a.next
  base := a.base
  ws h1 h2 := by
    rcases hw with h | h3
    · exact h
    · exact a.ws (h3 h1) h2
  wi i hi := by
    rcases a.wi i hi with h1 | h1 | h1
    · exact .inl h1
    · by_cases h2 : i < H.next
      · exact .inr (.inl (h i h1 h2))
      · exact .inr (.inr (by omega))
    · exact .inr (.inr h1)
theorem Df.ow {own : Nat → Prop} {H0 H H' : Heap} (a : Df own H H') (ho : Ow H0 H) (hb : H0.base ≤ H0.next) (h : ∀ i, own i → H0.next ≤ i) : Ow H0 H' where
  obj i hi := (a.obj i (Nat.lt_of_lt_of_le hi ho.next) fun h2 => by have := h i h2; omega).trans (ho.obj i hi)
  next := Nat.le_trans ho.next a.next
  base := a.base.trans ho.base
  ws := (a.ws (fun i hi => by rw [ho.base]; exact Nat.le_trans hb (h i hi)) (by rw [ho.base]; exact Nat.le_trans hb ho.next)).trans ho.ws
theorem AccP.frame {α : Type} {t : Ty α} {own own' : Nat → Prop} {H H' : Heap} {v : AV} {l : List α} (h : AccP t own H v l) (hn : H.next ≤ H'.next) (ho : ∀ i, own i → i < H.next → H'.obj i = H.obj i) (hw : ∀ i, own i → i < H.next → own' i) : AccP t own' H' v l := by
  cases h with
  | nil => exact .nil
  | vec => exact .vec
  | live id rel l n hnl hobj hid hidn hrel hne =>
    refine .live id rel l n hnl ((ho id hid hidn).trans hobj) (hw id hid hidn) (by omega) (fun r h => ?_) hne
    have := hrel r h
    exact ⟨hw r this.1 this.2.2, this.2.1, by omega⟩
theorem AccP.acc {α : Type} {t : Ty α} {own : Nat → Prop} {H0 H : Heap} {v : AV} {l : List α} (h : AccP t own H v l) (hw : ∀ i, own i → H0.next ≤ i) : Acc t H0 H v l := by
  cases h with
  | nil => exact .nil
  | vec => exact .vec
  | live id rel l n hnl hobj hid hidn hrel hne => exact .live id rel l n hnl hobj (hw id hid) hidn (fun r h => ⟨hw r (hrel r h).1, (hrel r h).2.1⟩) hne
theorem AccP.app {α : Type} {t : Ty α} {own : Nat → Prop} {H : Heap} {v : AV} {l m : List α} {bs : Nat} {ex : Bool} {n : Nat} (h : AccP t own H v l) (hnew : own H.next) (hm : m ≠ []) (hn : n = m.length) (hs : (l.length + m.length) * bs ≤ 2 ^ 45) :
    ∃ v' H', appA H t.e bs v (.vec n ex (t.row m)) = some (v', H') ∧ AccP t own H' v' (l ++ m) ∧ Df own H H' := by
  subst hn
  have hlen : (t.row m).length = m.length * t.e := t.row_length m
  have hm0 : m.length ≠ 0 := by simpa using hm
  have hsrc : srcA H t.e (.vec m.length ex (t.row m)) = some (m.length, t.row m) := by simp [srcA, hlen]
  cases h with
  | nil =>
    refine ⟨.sl H.next 0 m.length m.length false t.e, H.new (.cells (t.row m) none), ?_, .live H.next none ([] ++ m) m.length (by simp) ?_ hnew (by show H.next < H.next + 1; omega) (fun r h => by cases h) (by simpa using hm), Df.refl.new _⟩
    · simp only [appA, hsrc]
      rw [if_neg hm0, if_pos (by simpa using hs)]
    · simp [Heap.new, upd]
  | vec =>
    refine ⟨.sl H.next 0 m.length m.length false t.e, H.new (.cells (t.row m) none), ?_, .live H.next none ([] ++ m) m.length (by simp) ?_ hnew (by show H.next < H.next + 1; omega) (fun r h => by cases h) (by simpa using hm), Df.refl.new _⟩
    · simp only [appA, hsrc]
      rw [if_neg hm0, if_pos ⟨by simpa using hs, by simp⟩]
      simp
    · simp [Heap.new, upd]
  | live id rel l n hnl hobj hid hidn hrel hne =>
    subst hnl
    have hl : (t.row l).length = l.length * t.e := t.row_length l
    have hne2 : id ≠ H.next := by omega
    have hnx : ((H.kill rel).set id (.cells (t.row l) (some H.next))).next = H.next := by cases rel <;> rfl
    refine ⟨.sl H.next 0 (l.length + m.length) (l.length + m.length) false t.e, ((H.kill rel).set id (.cells (t.row l) (some H.next))).new (.cells (t.row l ++ t.row m) (some id)), ?_, ?_, ((Df.refl.kill fun r h => (hrel r h).1).set _ (.inl hid)).new _⟩
    · simp only [appA, hsrc]
      rw [if_neg hm0]
      simp only [ne_eq, not_true_eq_false, if_false]
      rw [hobj]
      simp only
      rw [if_neg (by omega), if_pos hs]
      simp [hl]
    · refine .live H.next (some id) (l ++ m) _ (by simp) ?_ hnew ?_ (fun r h => ?_) (by simp [hne])
      · simp only [Heap.new, upd]
        rw [if_pos (by rw [hnx]), t.row_append]
      · show H.next < ((H.kill rel).set id (.cells (t.row l) (some H.next))).next + 1
        rw [hnx]; omega
      · cases h
        refine ⟨hid, hne2, ?_⟩
        show id < ((H.kill rel).set id (.cells (t.row l) (some H.next))).next + 1
        rw [hnx]; omega
namespace Ytl
section
variable {s : List Jtm} {k : KF} {Q : AV → Heap → Prop}
theorem ldM {a : Mo} : part true 8 a.cells 0 = some (mono a) := rfl
def lcms (l1 l2 : List Mo) : List Mo := l1.flatMap fun a => l2.map (Mo.map2 imax a)
end
end Ytl
end Go.Mach
set_option linter.unusedSimpArgs false
set_option linter.unusedVariables false
set_option maxRecDepth 100000
namespace Go.Mach.Ytl
open Go.Mach
section
variable {s : List Jtm} {k : KF} {Q : AV → Heap → Prop}
theorem mm_min {k : IntKind} {x y : Int} : mmA false (.int k x) [.int k y] = some (.int k (imin x y)) := by
  simp [mmA, mm2, imin]
end
end Go.Mach.Ytl
set_option linter.unusedSimpArgs false
set_option linter.unusedVariables false
set_option maxRecDepth 100000
namespace Go.Mach.Ytl
open Go.Mach
section
variable {s : List Jtm} {k : KF} {Q : AV → Heap → Prop}
theorem cmp_three (a b : Mo) : Mo.cmp a b = -1 ∨ Mo.cmp a b = 0 ∨ Mo.cmp a b = 1 := cmp_pm
end
end Go.Mach.Ytl
