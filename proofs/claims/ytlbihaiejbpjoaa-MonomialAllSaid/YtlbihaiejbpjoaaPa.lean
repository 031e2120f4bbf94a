/-
  The recursion of monomial.All. By an AI agent.
-/
import Derived.Test.YtlbihaiejbpjoaaOa
set_option linter.unusedSimpArgs false
set_option linter.unusedVariables false
set_option maxRecDepth 100000
namespace Go.Mach.Ytl
open Go.Mach

/-! ### Exponents by number -/
def Mo.setI (m : Mo) (i : Nat) (x : Int) : Mo := match i with
  | 0 => { m with x0 := x }
  | 1 => { m with x1 := x }
  | 2 => { m with x2 := x }
  | 3 => { m with x3 := x }
  | 4 => { m with x4 := x }
  | 5 => { m with x5 := x }
  | 6 => { m with x6 := x }
  | 7 => { m with x7 := x }
  | _ => m
def Mo.get (m : Mo) (i : Nat) : Int := match i with
  | 0 => m.x0
  | 1 => m.x1
  | 2 => m.x2
  | 3 => m.x3
  | 4 => m.x4
  | 5 => m.x5
  | 6 => m.x6
  | 7 => m.x7
  | _ => 0
theorem set_cells {m : Mo} {i : Nat} {x : Int} (h : i < 8) : m.cells.set i (.int .i64 x) = (m.setI i x).cells := by
  match i, h with
  | 0, _ | 1, _ | 2, _ | 3, _ | 4, _ | 5, _ | 6, _ | 7, _ => rfl
theorem get_set {m : Mo} {i j : Nat} {x : Int} (h : i < 8) : (m.setI i x).get j = if j = i then x else m.get j := by
  match i, h with
  | 0, _ | 1, _ | 2, _ | 3, _ | 4, _ | 5, _ | 6, _ | 7, _ =>
    match j with
    | 0 | 1 | 2 | 3 | 4 | 5 | 6 | 7 => rfl
    | j + 8 => simp [Mo.get]
theorem get_cells {m : Mo} {i : Nat} (h : i < 8) : m.cells[i]? = some (.int .i64 (m.get i)) := by
  match i, h with
  | 0, _ | 1, _ | 2, _ | 3, _ | 4, _ | 5, _ | 6, _ | 7, _ => rfl
theorem Mo.ext' {m m' : Mo} (h : ∀ j, j < 8 → m.get j = m'.get j) : m = m' := by
  obtain ⟨a0, a1, a2, a3, a4, a5, a6, a7⟩ := m
  obtain ⟨b0, b1, b2, b3, b4, b5, b6, b7⟩ := m'
  rw [Mo.mk.injEq]
  exact ⟨h 0 (by omega), h 1 (by omega), h 2 (by omega), h 3 (by omega), h 4 (by omega), h 5 (by omega), h 6 (by omega), h 7 (by omega)⟩

/-! ### What the recursion lists -/
/-- The monomials of degree left in k variables from number i on, the others as in m. -/
def fillL : Nat → Nat → Nat → Mo → List Mo
  | 0, _, left, m => if left = 0 then [m] else []
  | 1, i, left, m => [m.setI i left]
  | k + 2, i, left, m => ((List.range (left + 1)).reverse).flatMap fun e => fillL (k + 1) (i + 1) (left - e) (m.setI i (e : Nat))
/-- Alike but for the variables i .. i + k - 1. -/
def Alike (i k : Nat) (m m' : Mo) : Prop := ∀ j, j < 8 → (j < i ∨ i + k ≤ j) → m.get j = m'.get j
theorem fillL_alike : ∀ (k i left : Nat) (m m' : Mo), i + k ≤ 8 → Alike i k m m' → fillL k i left m = fillL k i left m' := by
  intro k
  induction k with
  | zero =>
    intro i left m m' hk h
    have : m = m' := Mo.ext' fun j hj => h j hj (by omega)
    rw [this]
  | succ k ih =>
    intro i left m m' hk h
    have step : ∀ e : Int, Alike (i + 1) k (m.setI i e) (m'.setI i e) := by
      intro e j hj hc
      rw [get_set (by omega), get_set (by omega)]
      by_cases hji : j = i
      · simp [hji]
      · rw [if_neg hji, if_neg hji]; exact h j hj (by omega)
    cases k with
    | zero =>
      simp only [fillL]
      have : m.setI i left = m'.setI i left := Mo.ext' fun j hj => step left j hj (by omega)
      rw [this]
    | succ k =>
      simp only [fillL]
      congr 1
      funext e
      exact ih (i + 1) (left - e) _ _ (by omega) (step e)

/-! ### What a run of it does -/
structure Ids where
  pn : Nat
  po : Nat
  pm : Nat
  pf : Nat
namespace Ids
variable (I : Ids)
def fnv : AV := .fn 86 [] [.ptr I.pn 0, .ptr I.pm 0, .ptr I.pf 0, .ptr I.po 0]
/-- The heap ahead of the first call. -/
structure Ok (H0 : Heap) (n : Nat) : Prop where
  n1 : I.pn < H0.next
  o1 : I.po < H0.next
  m1 : I.pm < H0.next
  f1 : I.pf < H0.next
  no : I.pn ≠ I.po
  nm : I.pn ≠ I.pm
  fo : I.pf ≠ I.po
  fm : I.pf ≠ I.pm
  om : I.po ≠ I.pm
  b0 : H0.base ≤ I.pm
  b1 : H0.base ≤ I.po
  bn : H0.base ≤ H0.next
  hn : H0.obj I.pn = .cells [.int .i64 n] none
  hf : H0.obj I.pf = .cells [I.fnv] none
/-- Where the recursion stands. -/
structure S (H0 H : Heap) (m : Mo) (L : List Mo) : Prop where
  next : H0.next ≤ H.next
  bb : H0.base ≤ H.base
  old : ∀ i, i < H0.next → i ≠ I.pm → i ≠ I.po → H.obj i = H0.obj i
  mm : H.obj I.pm = .cells m.cells none
  out : ∃ v, H.obj I.po = .cells [v] none ∧ Acc tM H0 H v L
def New (b : Nat) (v : AV) : Prop := ∃ id off len lo ex e, v = .sl id off len lo ex e ∧ b ≤ id
/-- A piece of a run within one activation. -/
structure Tr (H0 H H' : Heap) : Prop where
  next : H.next ≤ H'.next
  base : H'.base = H.base
  sub : ∀ i ∈ H.ws, i ∈ H'.ws
  log : ∀ i, i < H.base → i ∉ H'.ws → H'.obj i = H.obj i
  wsI : ∀ i ∈ H'.ws, i ∈ H.ws ∨ (H0.base ≤ i ∧ i < H.base)
  alt : (H'.obj I.po = H.obj I.po ∧ ∀ i ∈ H'.ws, i ∈ H.ws ∨ i = I.pm) ∨ (∃ v, H'.obj I.po = .cells [v] none ∧ New H.next v ∧ (I.po < H.base → I.po ∈ H'.ws))
variable {I} {H0 H H1 H2 : Heap}
theorem Tr.refl : I.Tr H0 H H := ⟨Nat.le_refl _, rfl, fun _ h => h, fun _ _ _ => rfl, fun _ h => .inl h, .inl ⟨rfl, fun _ h => .inl h⟩⟩
theorem Tr.trans (a : I.Tr H0 H H1) (b : I.Tr H0 H1 H2) : I.Tr H0 H H2 where
  next := Nat.le_trans a.next b.next
  base := b.base.trans a.base
  sub i h := b.sub i (a.sub i h)
  log i h1 h2 := (b.log i (by rw [a.base]; exact h1) h2).trans (a.log i h1 fun h => h2 (b.sub i h))
  wsI i h := by
    rcases b.wsI i h with h | ⟨h1, h2⟩
    · exact a.wsI i h
    · exact .inr ⟨h1, by rw [← a.base]; exact h2⟩
  alt := by
    rcases b.alt with ⟨e1, e2⟩ | ⟨v, e1, ⟨id, off, len, lo, ex, e, e2, e3⟩, e4⟩
    · rcases a.alt with ⟨f1, f2⟩ | ⟨v, f1, f2, f3⟩
      · refine .inl ⟨e1.trans f1, fun i h => ?_⟩
        rcases e2 i h with h | h
        · exact f2 i h
        · exact .inr h
      · exact .inr ⟨v, e1.trans f1, f2, fun h => b.sub _ (f3 h)⟩
    · exact .inr ⟨v, e1, ⟨id, off, len, lo, ex, e, e2, Nat.le_trans a.next e3⟩, fun h => e4 (by rw [a.base]; exact h)⟩

theorem set_tr {o : AObj} (hb : H0.base ≤ I.pm) (hom : I.po ≠ I.pm) : I.Tr H0 H (H.set I.pm o) where
  next := Nat.le_refl _
  base := rfl
  sub i h := by simp only [Heap.set]; split <;> simp [h]
  log i h1 h2 := by
    simp only [Heap.set, upd] at h2 ⊢
    by_cases hi : i = I.pm
    · subst hi; rw [if_pos h1] at h2; simp at h2
    · rw [if_neg hi]
  wsI i h := by
    simp only [Heap.set] at h
    split at h
    · rcases List.mem_cons.1 h with rfl | h
      · exact .inr ⟨hb, by assumption⟩
      · exact .inl h
    · exact .inl h
  alt := .inl ⟨by simp only [Heap.set, upd]; rw [if_neg hom], fun i h => by
    simp only [Heap.set] at h
    split at h
    · rcases List.mem_cons.1 h with rfl | h
      · exact .inr rfl
      · exact .inl h
    · exact .inl h⟩
/-- Writing the row of exponents. -/
theorem S.store {m m' : Mo} {L : List Mo} {n : Nat} (h : I.S H0 H m L) (ok : I.Ok H0 n) : I.S H0 (H.set I.pm (.cells m'.cells none)) m' L where
  next := h.next
  bb := h.bb
  old i h1 h2 h3 := by simp only [Heap.set, upd]; rw [if_neg h2]; exact h.old i h1 h2 h3
  mm := by simp [Heap.set, upd]
  out := by
    obtain ⟨v, h1, h2⟩ := h.out
    refine ⟨v, by simp only [Heap.set, upd]; rw [if_neg ok.om]; exact h1, h2.other (Nat.le_refl _) fun i h3 h4 => ?_⟩
    simp only [Heap.set, upd]; rw [if_neg (by have := ok.m1; omega)]

/-! ### An append in whatever activation -/
structure Ap (H0 H H' : Heap) : Prop where
  next : H'.next = H.next + 1
  base : H'.base = H.base
  sub : ∀ i ∈ H.ws, i ∈ H'.ws
  log : ∀ i, i < H.base → i ∉ H'.ws → H'.obj i = H.obj i
  wsI : ∀ i ∈ H'.ws, i ∈ H.ws ∨ (H0.next ≤ i ∧ i < H.base)
  old : ∀ i, i < H0.next → H'.obj i = H.obj i
theorem ap_new {o : AObj} (hb : H.base ≤ H.next) (hn : H0.next ≤ H.next) : Ap H0 H (H.new o) where
  next := rfl
  base := rfl
  sub _ h := h
  log i h1 h2 := by simp only [Heap.new, upd]; rw [if_neg (by omega)]
  wsI i h := .inl h
  old i h := by simp only [Heap.new, upd]; rw [if_neg (by omega)]
structure Se (H0 H H' : Heap) : Prop where
  next : H'.next = H.next
  base : H'.base = H.base
  sub : ∀ i ∈ H.ws, i ∈ H'.ws
  log : ∀ i, i < H.base → i ∉ H'.ws → H'.obj i = H.obj i
  wsI : ∀ i ∈ H'.ws, i ∈ H.ws ∨ (H0.next ≤ i ∧ i < H.base)
  old : ∀ i, i < H0.next → H'.obj i = H.obj i
theorem se_refl : Se H0 H H := ⟨rfl, rfl, fun _ h => h, fun _ _ _ => rfl, fun _ h => .inl h, fun _ _ => rfl⟩
theorem se_set {id : Nat} {o : AObj} (h : H0.next ≤ id) : Se H0 H (H.set id o) where
  next := rfl
  base := rfl
  sub i h := by simp only [Heap.set]; split <;> simp [h]
  log i h1 h2 := by
    simp only [Heap.set, upd] at h2 ⊢
    by_cases hi : i = id
    · subst hi; rw [if_pos h1] at h2; simp at h2
    · rw [if_neg hi]
  wsI i hi := by
    simp only [Heap.set] at hi
    split at hi
    · rcases List.mem_cons.1 hi with rfl | hi
      · exact .inr ⟨h, by assumption⟩
      · exact .inl hi
    · exact .inl hi
  old i hi := by simp only [Heap.set, upd]; rw [if_neg (by omega)]
theorem se_trans (a : Se H0 H H1) (b : Se H0 H1 H2) : Se H0 H H2 where
  next := b.next.trans a.next
  base := b.base.trans a.base
  sub i h := b.sub i (a.sub i h)
  log i h1 h2 := (b.log i (by rw [a.base]; exact h1) h2).trans (a.log i h1 fun h => h2 (b.sub i h))
  wsI i h := by
    rcases b.wsI i h with h | ⟨h1, h2⟩
    · exact a.wsI i h
    · exact .inr ⟨h1, by rw [← a.base]; exact h2⟩
  old i h := (b.old i h).trans (a.old i h)
theorem se_ap (a : Se H0 H H1) (b : Ap H0 H1 H2) : Ap H0 H H2 where
  next := by rw [b.next, a.next]
  base := b.base.trans a.base
  sub i h := b.sub i (a.sub i h)
  log i h1 h2 := (b.log i (by rw [a.base]; exact h1) h2).trans (a.log i h1 fun h => h2 (b.sub i h))
  wsI i h := by
    rcases b.wsI i h with h | ⟨h1, h2⟩
    · exact a.wsI i h
    · exact .inr ⟨h1, by rw [← a.base]; exact h2⟩
  old i h := (b.old i h).trans (a.old i h)
theorem se_kill {rel : Option Nat} (h : ∀ r, rel = some r → H0.next ≤ r) : Se H0 H (H.kill rel) := by
  cases rel with
  | none => exact se_refl
  | some r => exact se_set (h r rfl)
theorem acc_app {v : AV} {l : List Mo} {a : Mo} (h : Acc tM H0 H v l) (hb : H.base ≤ H.next) (hn : H0.next ≤ H.next) (hs : l.length < 2 ^ 30) :
    ∃ v' H', appA H 8 64 v (.vec 1 true a.cells) = some (v', H') ∧ Acc tM H0 H' v' (l ++ [a]) ∧ Ap H0 H H' ∧ New H.next v' := by
  have hsrc : srcA H 8 (.vec 1 true a.cells) = some (1, a.cells) := rfl
  cases h with
  | nil =>
    refine ⟨.sl H.next 0 1 1 false 8, H.new (.cells a.cells none), by simp [appA, hsrc], .live H.next none [a] 1 rfl ?_ hn (by show H.next < H.next + 1; omega) (fun r h => by cases h) (by simp), ap_new hb hn, ⟨_, _, _, _, _, _, rfl, Nat.le_refl _⟩⟩
    simp only [Heap.new, upd, if_true]; simp [Ty.row]; rfl
  | vec =>
    refine ⟨.sl H.next 0 1 1 false 8, H.new (.cells a.cells none), by simp [appA, hsrc], .live H.next none [a] 1 rfl ?_ hn (by show H.next < H.next + 1; omega) (fun r h => by cases h) (by simp), ap_new hb hn, ⟨_, _, _, _, _, _, rfl, Nat.le_refl _⟩⟩
    simp only [Heap.new, upd, if_true]; simp [Ty.row]; rfl
  | live id rel l n hnl hobj hid hidn hrel hne =>
    subst hnl
    have hl : (tM.row l).length = l.length * 8 := tM.row_length l
    have hk : Se H0 H (H.kill rel) := se_kill fun r h => (hrel r h).1
    have hk2 := se_trans hk (se_set (H := H.kill rel) (id := id) (o := .cells (tM.row l) (some H.next)) hid)
    have hne2 : id ≠ H.next := by omega
    refine ⟨.sl H.next 0 (l.length + 1) (l.length + 1) false 8, ((H.kill rel).set id (.cells (tM.row l) (some H.next))).new (.cells (tM.row l ++ a.cells) (some id)), ?_, ?_, se_ap hk2 (ap_new (by rw [hk2.base, hk2.next]; exact hb) (by rw [hk2.next]; exact hn)), ⟨_, _, _, _, _, _, rfl, Nat.le_refl _⟩⟩
    · simp only [appA, hsrc]
      rw [if_neg (by decide), show tM.e = 8 from rfl]
      simp only [ne_eq, not_true_eq_false, if_false]
      rw [hobj]
      simp only
      rw [if_neg (by omega), if_pos (by omega)]
      simp [hl]
    · refine .live H.next (some id) (l ++ [a]) _ (by simp) ?_ hn ?_ (fun r h => ?_) (by simp)
      · simp only [Heap.new, upd]
        rw [if_pos (by rw [hk2.next]), tM.row_append]; simp [Ty.row]; rfl
      · show H.next < ((H.kill rel).set id (.cells (tM.row l) (some H.next))).next + 1
        rw [hk2.next]; omega
      · cases h; exact ⟨hid, hne2⟩

/-- The list grows by the row of exponents. -/
theorem S.push {m : Mo} {L : List Mo} {n : Nat} (h : I.S H0 H m L) (ok : I.Ok H0 n) (hb : H.base ≤ H.next) (hs : L.length < 2 ^ 30) {v : AV} (hv : H.obj I.po = .cells [v] none) (ha : Acc tM H0 H v L) :
    ∃ v' H', appA H 8 64 v (.vec 1 true m.cells) = some (v', H') ∧ H'.obj I.po = .cells [v] none ∧ I.S H0 (H'.set I.po (.cells [v'] none)) m (L ++ [m]) ∧ I.Tr H0 H (H'.set I.po (.cells [v'] none)) ∧ H'.base ≤ H'.next ∧ v'.flat = some [v'] := by
  obtain ⟨v', H', e, ha', hap, hnew⟩ := acc_app (a := m) ha hb h.next hs
  have hob : ∀ i, i < H0.next → H'.obj i = H.obj i := hap.old
  refine ⟨v', H', e, by rw [hob _ ok.o1]; exact hv, ?_, ?_, by rw [hap.base, hap.next]; omega, by obtain ⟨_, _, _, _, _, _, rfl, _⟩ := hnew; rfl⟩
  · refine ⟨by show H0.next ≤ H'.next; have := h.next; have := hap.next; omega, by show H0.base ≤ H'.base; rw [hap.base]; exact h.bb, fun i h1 h2 h3 => ?_, ?_, v', ?_, ?_⟩
    · simp only [Heap.set, upd]; rw [if_neg h3, hob i h1]; exact h.old i h1 h2 h3
    · simp only [Heap.set, upd]; rw [if_neg (fun e => ok.om e.symm), hob _ ok.m1]; exact h.mm
    · simp [Heap.set, upd]
    · refine ha'.other (Nat.le_refl _) fun i h3 h4 => ?_
      simp only [Heap.set, upd]; rw [if_neg (by have := ok.o1; omega)]
  · refine ⟨by show H.next ≤ H'.next; have := hap.next; omega, hap.base, fun i hi => ?_, fun i h1 h2 => ?_, fun i hi => ?_, .inr ⟨v', by simp [Heap.set, upd], hnew, fun h => ?_⟩⟩
    · have := hap.sub i hi
      simp only [Heap.set]; split <;> simp [this]
    · simp only [Heap.set, upd] at h2 ⊢
      rw [hap.base] at h2
      by_cases hi : i = I.po
      · subst hi; rw [if_pos h1] at h2; simp at h2
      · rw [if_neg hi]
        refine hap.log i h1 fun h => h2 ?_
        split
        · exact List.mem_cons_of_mem _ h
        · exact h
    · have key : ∀ i ∈ H'.ws, i ∈ H.ws ∨ (H0.base ≤ i ∧ i < H.base) := fun i hi => by
        rcases hap.wsI i hi with h | ⟨h1, h2⟩
        · exact .inl h
        · exact .inr ⟨Nat.le_trans ok.bn h1, h2⟩
      simp only [Heap.set] at hi
      split at hi
      · rcases List.mem_cons.1 hi with rfl | hi
        · exact .inr ⟨ok.b1, by rw [← hap.base]; assumption⟩
        · exact key i hi
      · exact key i hi
    · simp only [Heap.set]; rw [if_pos (by rw [hap.base]; exact h)]; simp
end Ids
end Go.Mach.Ytl
