/-
  The recursion of monomial.All. By an AI agent.
  monomial.All in the machine. By an AI agent.
  monomial.All; law 6 (MonomialLimits). By an AI agent.
-/
import Derived.Test.YtlbihaiejbpjoaaNn
import Derived.Test.YtlbihaiejbpjoaaCs
set_option linter.unusedSimpArgs false
set_option linter.unusedVariables false
set_option maxRecDepth 100000
namespace Go.Mach.Ytl
open Go.Mach

/-! ### Exponents by number -/
def Mo.setI (m : Mo) (i : Nat) (x : Int) : Mo := match i with
  | 0 => { m with x0 := x }
  | 1 => { m with x1 := x }
  | 2 => { m with x2 := x }
  | 3 => { m with x3 := x }
  | 4 => { m with x4 := x }
  | 5 => { m with x5 := x }
  | 6 => { m with x6 := x }
  | 7 => { m with x7 := x }
  | _ => m
def Mo.get (m : Mo) (i : Nat) : Int := match i with
  | 0 => m.x0
  | 1 => m.x1
  | 2 => m.x2
  | 3 => m.x3
  | 4 => m.x4
  | 5 => m.x5
  | 6 => m.x6
  | 7 => m.x7
  | _ => 0
theorem set_cells {m : Mo} {i : Nat} {x : Int} (h : i < 8) : m.cells.set i (.int .i64 x) = (m.setI i x).cells := by
  match i, h with
  | 0, _ | 1, _ | 2, _ | 3, _ | 4, _ | 5, _ | 6, _ | 7, _ => rfl
theorem get_set {m : Mo} {i j : Nat} {x : Int} (h : i < 8) : (m.setI i x).get j = if j = i then x else m.get j := by
  match i, h with
  | 0, _ | 1, _ | 2, _ | 3, _ | 4, _ | 5, _ | 6, _ | 7, _ =>
    match j with
    | 0 | 1 | 2 | 3 | 4 | 5 | 6 | 7 => rfl
    | j + 8 => simp [Mo.get]
theorem get_cells {m : Mo} {i : Nat} (h : i < 8) : m.cells[i]? = some (.int .i64 (m.get i)) := by
  match i, h with
  | 0, _ | 1, _ | 2, _ | 3, _ | 4, _ | 5, _ | 6, _ | 7, _ => rfl
theorem Mo.ext' {m m' : Mo} (h : ∀ j, j < 8 → m.get j = m'.get j) : m = m' := by
  obtain ⟨a0, a1, a2, a3, a4, a5, a6, a7⟩ := m
  obtain ⟨b0, b1, b2, b3, b4, b5, b6, b7⟩ := m'
  rw [Mo.mk.injEq]
  exact ⟨h 0 (by omega), h 1 (by omega), h 2 (by omega), h 3 (by omega), h 4 (by omega), h 5 (by omega), h 6 (by omega), h 7 (by omega)⟩

/-! ### What the recursion lists -/
/-- The monomials of degree left in k variables from number i on, the others as in m. -/
def fillL : Nat → Nat → Nat → Mo → List Mo
  | 0, _, left, m => if left = 0 then [m] else []
  | 1, i, left, m => [m.setI i left]
  | k + 2, i, left, m => ((List.range (left + 1)).reverse).flatMap fun e => fillL (k + 1) (i + 1) (left - e) (m.setI i (e : Nat))
/-- Alike but for the variables i .. i + k - 1. -/
def Alike (i k : Nat) (m m' : Mo) : Prop := ∀ j, j < 8 → (j < i ∨ i + k ≤ j) → m.get j = m'.get j
theorem fillL_alike : ∀ (k i left : Nat) (m m' : Mo), i + k ≤ 8 → Alike i k m m' → fillL k i left m = fillL k i left m' := by
  intro k
  induction k with
  | zero =>
    intro i left m m' hk h
    have : m = m' := Mo.ext' fun j hj => h j hj (by omega)
    rw [this]
  | succ k ih =>
    intro i left m m' hk h
    have step : ∀ e : Int, Alike (i + 1) k (m.setI i e) (m'.setI i e) := by
      intro e j hj hc
      rw [get_set (by omega), get_set (by omega)]
      by_cases hji : j = i
      · simp [hji]
      · rw [if_neg hji, if_neg hji]; exact h j hj (by omega)
    cases k with
    | zero =>
      simp only [fillL]
      have : m.setI i left = m'.setI i left := Mo.ext' fun j hj => step left j hj (by omega)
      rw [this]
    | succ k =>
      simp only [fillL]
      congr 1
      funext e
      exact ih (i + 1) (left - e) _ _ (by omega) (step e)

/-! ### What a run of it does -/
structure Ids where
  pn : Nat
  po : Nat
  pm : Nat
  pf : Nat
namespace Ids
variable (I : Ids)
def fnv : AV := .fn 86 [] [.ptr I.pn 0, .ptr I.pm 0, .ptr I.pf 0, .ptr I.po 0]
/-- The heap ahead of the first call. -/
structure Ok (H0 : Heap) (n : Nat) : Prop where
  n1 : I.pn < H0.next
  o1 : I.po < H0.next
  m1 : I.pm < H0.next
  f1 : I.pf < H0.next
  no : I.pn ≠ I.po
  nm : I.pn ≠ I.pm
  fo : I.pf ≠ I.po
  fm : I.pf ≠ I.pm
  om : I.po ≠ I.pm
  b0 : H0.base ≤ I.pm
  b1 : H0.base ≤ I.po
  bn : H0.base ≤ H0.next
  hn : H0.obj I.pn = .cells [.int .i64 n] none
  hf : H0.obj I.pf = .cells [I.fnv] none
/-- Where the recursion stands. -/
structure S (H0 H : Heap) (m : Mo) (L : List Mo) : Prop where
  next : H0.next ≤ H.next
  bb : H0.base ≤ H.base
  old : ∀ i, i < H0.next → i ≠ I.pm → i ≠ I.po → H.obj i = H0.obj i
  mm : H.obj I.pm = .cells m.cells none
  out : ∃ v, H.obj I.po = .cells [v] none ∧ Acc tM H0 H v L
def New (b : Nat) (v : AV) : Prop := ∃ id off len lo ex e, v = .sl id off len lo ex e ∧ b ≤ id
/-- A piece of a run within one activation. -/
structure Tr (H0 H H' : Heap) : Prop where
  next : H.next ≤ H'.next
  base : H'.base = H.base
  sub : ∀ i ∈ H.ws, i ∈ H'.ws
  log : ∀ i, i < H.base → i ∉ H'.ws → H'.obj i = H.obj i
  wsI : ∀ i ∈ H'.ws, i ∈ H.ws ∨ (H0.base ≤ i ∧ i < H.base)
  alt : (H'.obj I.po = H.obj I.po ∧ ∀ i ∈ H'.ws, i ∈ H.ws ∨ i = I.pm) ∨ (∃ v, H'.obj I.po = .cells [v] none ∧ New H.next v ∧ (I.po < H.base → I.po ∈ H'.ws))
variable {I} {H0 H H1 H2 : Heap}
theorem Tr.refl : I.Tr H0 H H := ⟨Nat.le_refl _, rfl, fun _ h => h, fun _ _ _ => rfl, fun _ h => .inl h, .inl ⟨rfl, fun _ h => .inl h⟩⟩
theorem Tr.trans (a : I.Tr H0 H H1) (b : I.Tr H0 H1 H2) : I.Tr H0 H H2 where
  next := Nat.le_trans a.next b.next
  base := b.base.trans a.base
  sub i h := b.sub i (a.sub i h)
  log i h1 h2 := (b.log i (by rw [a.base]; exact h1) h2).trans (a.log i h1 fun h => h2 (b.sub i h))
  wsI i h := by
    rcases b.wsI i h with h | ⟨h1, h2⟩
    · exact a.wsI i h
    · exact .inr ⟨h1, by rw [← a.base]; exact h2⟩
  alt := by
    rcases b.alt with ⟨e1, e2⟩ | ⟨v, e1, ⟨id, off, len, lo, ex, e, e2, e3⟩, e4⟩
    · rcases a.alt with ⟨f1, f2⟩ | ⟨v, f1, f2, f3⟩
      · refine .inl ⟨e1.trans f1, fun i h => ?_⟩
        rcases e2 i h with h | h
        · exact f2 i h
        · exact .inr h
      · exact .inr ⟨v, e1.trans f1, f2, fun h => b.sub _ (f3 h)⟩
    · exact .inr ⟨v, e1, ⟨id, off, len, lo, ex, e, e2, Nat.le_trans a.next e3⟩, fun h => e4 (by rw [a.base]; exact h)⟩

theorem set_tr {o : AObj} (hb : H0.base ≤ I.pm) (hom : I.po ≠ I.pm) : I.Tr H0 H (H.set I.pm o) where
  next := Nat.le_refl _
  base := rfl
  sub i h := by simp only [Heap.set]; split <;> simp [h]
  log i h1 h2 := by
    simp only [Heap.set, upd] at h2 ⊢
    by_cases hi : i = I.pm
    · subst hi; rw [if_pos h1] at h2; simp at h2
    · rw [if_neg hi]
  wsI i h := by
    simp only [Heap.set] at h
    split at h
    · rcases List.mem_cons.1 h with rfl | h
      · exact .inr ⟨hb, by assumption⟩
      · exact .inl h
    · exact .inl h
  alt := .inl ⟨by simp only [Heap.set, upd]; rw [if_neg hom], fun i h => by
    simp only [Heap.set] at h
    split at h
    · rcases List.mem_cons.1 h with rfl | h
      · exact .inr rfl
      · exact .inl h
    · exact .inl h⟩
/-- Writing the row of exponents. -/
theorem S.store {m m' : Mo} {L : List Mo} {n : Nat} (h : I.S H0 H m L) (ok : I.Ok H0 n) : I.S H0 (H.set I.pm (.cells m'.cells none)) m' L where
  next := h.next
  bb := h.bb
  old i h1 h2 h3 := by simp only [Heap.set, upd]; rw [if_neg h2]; exact h.old i h1 h2 h3
  mm := by simp [Heap.set, upd]
  out := by
    obtain ⟨v, h1, h2⟩ := h.out
    refine ⟨v, by simp only [Heap.set, upd]; rw [if_neg ok.om]; exact h1, h2.other (Nat.le_refl _) fun i h3 h4 => ?_⟩
    simp only [Heap.set, upd]; rw [if_neg (by have := ok.m1; omega)]

/-! ### An append in whatever activation -/
structure Ap (H0 H H' : Heap) : Prop where
  next : H'.next = H.next + 1
  base : H'.base = H.base
  sub : ∀ i ∈ H.ws, i ∈ H'.ws
  log : ∀ i, i < H.base → i ∉ H'.ws → H'.obj i = H.obj i
  wsI : ∀ i ∈ H'.ws, i ∈ H.ws ∨ (H0.next ≤ i ∧ i < H.base)
  old : ∀ i, i < H0.next → H'.obj i = H.obj i
theorem ap_new {o : AObj} (hb : H.base ≤ H.next) (hn : H0.next ≤ H.next) : Ap H0 H (H.new o) where
  next := rfl
  base := rfl
  sub _ h := h
  log i h1 h2 := by simp only [Heap.new, upd]; rw [if_neg (by omega)]
  wsI i h := .inl h
  old i h := by simp only [Heap.new, upd]; rw [if_neg (by omega)]
structure Se (H0 H H' : Heap) : Prop where
  next : H'.next = H.next
  base : H'.base = H.base
  sub : ∀ i ∈ H.ws, i ∈ H'.ws
  log : ∀ i, i < H.base → i ∉ H'.ws → H'.obj i = H.obj i
  wsI : ∀ i ∈ H'.ws, i ∈ H.ws ∨ (H0.next ≤ i ∧ i < H.base)
  old : ∀ i, i < H0.next → H'.obj i = H.obj i
theorem se_refl : Se H0 H H := ⟨rfl, rfl, fun _ h => h, fun _ _ _ => rfl, fun _ h => .inl h, fun _ _ => rfl⟩
theorem se_set {id : Nat} {o : AObj} (h : H0.next ≤ id) : Se H0 H (H.set id o) where
  next := rfl
  base := rfl
  sub i h := by simp only [Heap.set]; split <;> simp [h]
  log i h1 h2 := by
    simp only [Heap.set, upd] at h2 ⊢
    by_cases hi : i = id
    · subst hi; rw [if_pos h1] at h2; simp at h2
    · rw [if_neg hi]
  wsI i hi := by
    simp only [Heap.set] at hi
    split at hi
    · rcases List.mem_cons.1 hi with rfl | hi
      · exact .inr ⟨h, by assumption⟩
      · exact .inl hi
    · exact .inl hi
  old i hi := by simp only [Heap.set, upd]; rw [if_neg (by omega)]
theorem se_trans (a : Se H0 H H1) (b : Se H0 H1 H2) : Se H0 H H2 where
  next := b.next.trans a.next
  base := b.base.trans a.base
  sub i h := b.sub i (a.sub i h)
  log i h1 h2 := (b.log i (by rw [a.base]; exact h1) h2).trans (a.log i h1 fun h => h2 (b.sub i h))
  wsI i h := by
    rcases b.wsI i h with h | ⟨h1, h2⟩
    · exact a.wsI i h
    · exact .inr ⟨h1, by rw [← a.base]; exact h2⟩
  old i h := (b.old i h).trans (a.old i h)
theorem se_ap (a : Se H0 H H1) (b : Ap H0 H1 H2) : Ap H0 H H2 where
  next := by rw [b.next, a.next]
  base := b.base.trans a.base
  sub i h := b.sub i (a.sub i h)
  log i h1 h2 := (b.log i (by rw [a.base]; exact h1) h2).trans (a.log i h1 fun h => h2 (b.sub i h))
  wsI i h := by
    rcases b.wsI i h with h | ⟨h1, h2⟩
    · exact a.wsI i h
    · exact .inr ⟨h1, by rw [← a.base]; exact h2⟩
  old i h := (b.old i h).trans (a.old i h)
theorem se_kill {rel : Option Nat} (h : ∀ r, rel = some r → H0.next ≤ r) : Se H0 H (H.kill rel) := by
  cases rel with
  | none => exact se_refl
  | some r => exact se_set (h r rfl)
theorem acc_app {v : AV} {l : List Mo} {a : Mo} (h : Acc tM H0 H v l) (hb : H.base ≤ H.next) (hn : H0.next ≤ H.next) (hs : l.length < 2 ^ 30) :
    ∃ v' H', appA H 8 64 v (.vec 1 true a.cells) = some (v', H') ∧ Acc tM H0 H' v' (l ++ [a]) ∧ Ap H0 H H' ∧ New H.next v' := by
  have hsrc : srcA H 8 (.vec 1 true a.cells) = some (1, a.cells) := rfl
  cases h with
  | nil =>
    refine ⟨.sl H.next 0 1 1 false 8, H.new (.cells a.cells none), by simp [appA, hsrc], .live H.next none [a] 1 rfl ?_ hn (by show H.next < H.next + 1; omega) (fun r h => by cases h) (by simp), ap_new hb hn, ⟨_, _, _, _, _, _, rfl, Nat.le_refl _⟩⟩
    simp only [Heap.new, upd, if_true]; simp [Ty.row]; rfl
  | vec =>
    refine ⟨.sl H.next 0 1 1 false 8, H.new (.cells a.cells none), by simp [appA, hsrc], .live H.next none [a] 1 rfl ?_ hn (by show H.next < H.next + 1; omega) (fun r h => by cases h) (by simp), ap_new hb hn, ⟨_, _, _, _, _, _, rfl, Nat.le_refl _⟩⟩
    simp only [Heap.new, upd, if_true]; simp [Ty.row]; rfl
  | live id rel l n hnl hobj hid hidn hrel hne =>
    subst hnl
    have hl : (tM.row l).length = l.length * 8 := tM.row_length l
    have hk : Se H0 H (H.kill rel) := se_kill fun r h => (hrel r h).1
    have hk2 := se_trans hk (se_set (H := H.kill rel) (id := id) (o := .cells (tM.row l) (some H.next)) hid)
    have hne2 : id ≠ H.next := by omega
    refine ⟨.sl H.next 0 (l.length + 1) (l.length + 1) false 8, ((H.kill rel).set id (.cells (tM.row l) (some H.next))).new (.cells (tM.row l ++ a.cells) (some id)), ?_, ?_, se_ap hk2 (ap_new (by rw [hk2.base, hk2.next]; exact hb) (by rw [hk2.next]; exact hn)), ⟨_, _, _, _, _, _, rfl, Nat.le_refl _⟩⟩
    · simp only [appA, hsrc]
      rw [if_neg (by decide), show tM.e = 8 from rfl]
      simp only [ne_eq, not_true_eq_false, if_false]
      rw [hobj]
      simp only
      rw [if_neg (by omega), if_pos (by omega)]
      simp [hl]
    · refine .live H.next (some id) (l ++ [a]) _ (by simp) ?_ hn ?_ (fun r h => ?_) (by simp)
      · simp only [Heap.new, upd]
        rw [if_pos (by rw [hk2.next]), tM.row_append]; simp [Ty.row]; rfl
      · show H.next < ((H.kill rel).set id (.cells (tM.row l) (some H.next))).next + 1
        rw [hk2.next]; omega
      · cases h; exact ⟨hid, hne2⟩

/-- The list grows by the row of exponents. -/
theorem S.push {m : Mo} {L : List Mo} {n : Nat} (h : I.S H0 H m L) (ok : I.Ok H0 n) (hb : H.base ≤ H.next) (hs : L.length < 2 ^ 30) {v : AV} (hv : H.obj I.po = .cells [v] none) (ha : Acc tM H0 H v L) :
    ∃ v' H', appA H 8 64 v (.vec 1 true m.cells) = some (v', H') ∧ H'.obj I.po = .cells [v] none ∧ I.S H0 (H'.set I.po (.cells [v'] none)) m (L ++ [m]) ∧ I.Tr H0 H (H'.set I.po (.cells [v'] none)) ∧ H'.base ≤ H'.next ∧ v'.flat = some [v'] := by
  obtain ⟨v', H', e, ha', hap, hnew⟩ := acc_app (a := m) ha hb h.next hs
  have hob : ∀ i, i < H0.next → H'.obj i = H.obj i := hap.old
  refine ⟨v', H', e, by rw [hob _ ok.o1]; exact hv, ?_, ?_, by rw [hap.base, hap.next]; omega, by obtain ⟨_, _, _, _, _, _, rfl, _⟩ := hnew; rfl⟩
  · refine ⟨by show H0.next ≤ H'.next; have := h.next; have := hap.next; omega, by show H0.base ≤ H'.base; rw [hap.base]; exact h.bb, fun i h1 h2 h3 => ?_, ?_, v', ?_, ?_⟩
    · simp only [Heap.set, upd]; rw [if_neg h3, hob i h1]; exact h.old i h1 h2 h3
    · simp only [Heap.set, upd]; rw [if_neg (fun e => ok.om e.symm), hob _ ok.m1]; exact h.mm
    · simp [Heap.set, upd]
    · refine ha'.other (Nat.le_refl _) fun i h3 h4 => ?_
      simp only [Heap.set, upd]; rw [if_neg (by have := ok.o1; omega)]
  · refine ⟨by show H.next ≤ H'.next; have := hap.next; omega, hap.base, fun i hi => ?_, fun i h1 h2 => ?_, fun i hi => ?_, .inr ⟨v', by simp [Heap.set, upd], hnew, fun h => ?_⟩⟩
    · have := hap.sub i hi
      simp only [Heap.set]; split <;> simp [this]
    · simp only [Heap.set, upd] at h2 ⊢
      rw [hap.base] at h2
      by_cases hi : i = I.po
      · subst hi; rw [if_pos h1] at h2; simp at h2
      · rw [if_neg hi]
        refine hap.log i h1 fun h => h2 ?_
        split
        · exact List.mem_cons_of_mem _ h
        · exact h
    · have key : ∀ i ∈ H'.ws, i ∈ H.ws ∨ (H0.base ≤ i ∧ i < H.base) := fun i hi => by
        rcases hap.wsI i hi with h | ⟨h1, h2⟩
        · exact .inl h
        · exact .inr ⟨Nat.le_trans ok.bn h1, h2⟩
      simp only [Heap.set] at hi
      split at hi
      · rcases List.mem_cons.1 hi with rfl | hi
        · exact .inr ⟨ok.b1, by rw [← hap.base]; assumption⟩
        · exact key i hi
      · exact key i hi
    · simp only [Heap.set]; rw [if_pos (by rw [hap.base]; exact h)]; simp
end Ids
end Go.Mach.Ytl
set_option linter.unusedSimpArgs false
set_option linter.unusedVariables false
set_option maxRecDepth 100000
namespace Go.Mach.Ytl
open Go.Mach
namespace Ids
variable {I : Ids} {H0 H H1 H2 H3 : Heap}

theorem acc_back {v : AV} {L L' : List Mo} {H' : Heap} (a : Acc tM H0 H1 v L) (b : Acc tM H0 H3 v L') (hn : H'.next = H1.next) (ho : ∀ i, H0.next ≤ i → i < H1.next → H'.obj i = H3.obj i) : Acc tM H0 H' v L' := by
  cases b with
  | nil => exact .nil
  | vec => exact .vec
  | live id rel l n hnl hobj hid hidn hrel hne =>
    cases a with
    | live id2 rel2 l2 n2 hnl2 hobj2 hid2 hidn2 hrel2 hne2 => exact .live id rel _ _ hnl (by rw [ho id hid hidn2]; exact hobj) hid (by rw [hn]; exact hidn2) hrel hne
/-- The caller's heap behind a run of the recursion. -/
theorem wrapS {m m' : Mo} {L L' : List Mo} {n : Nat} (ok : I.Ok H0 n) (hb : H1.base ≤ H1.next) (s1 : I.S H0 H1 m L) (t : I.Tr H0 H1.begin H3) (s3 : I.S H0 H3 m' L') : ∃ H', wrapA H1 (.tup []) H3 = (.tup [], H') ∧ I.Tr H0 H1 H' ∧ I.S H0 H' m' L' := by
  obtain ⟨v1, o1, a1⟩ := s1.out
  obtain ⟨v3, o3, a3⟩ := s3.out
  have po1 : I.po < H1.next := Nat.lt_of_lt_of_le ok.o1 s1.next
  have pm1 : I.pm < H1.next := Nat.lt_of_lt_of_le ok.m1 s1.next
  have log : ∀ i, i < H1.next → i ∉ H3.ws → H3.obj i = H1.obj i := t.log
  have wsI : ∀ i ∈ H3.ws, H0.base ≤ i ∧ i < H1.next := fun i h => by
    rcases t.wsI i h with h | h
    · cases h
    · exact h
  have nx : H1.next ≤ H3.next := t.next
  have alt : (H3.obj I.po = H1.obj I.po ∧ ∀ i ∈ H3.ws, i = I.pm) ∨ (∃ v, H3.obj I.po = .cells [v] none ∧ New H1.next v ∧ I.po ∈ H3.ws) := by
    rcases t.alt with ⟨h1, h2⟩ | ⟨v, h1, h2, h3⟩
    · refine .inl ⟨h1, fun i hi => ?_⟩
      rcases h2 i hi with h | h
      · cases h
      · exact h
    · exact .inr ⟨v, h1, h2, h3 po1⟩
  have caseA : (H3.obj I.po = H1.obj I.po ∧ ∀ i ∈ H3.ws, i = I.pm) → ∀ H' : Heap, H'.next = H1.next → H'.base = H1.base → (∀ i, H'.obj i = if i = I.pm then H3.obj i else H1.obj i) → I.S H0 H' m' L' := by
    intro ⟨h1, h2⟩ H' hn hbs ho
    have hv : v1 = v3 := by
      rw [o3, o1] at h1
      simpa using h1.symm
    subst hv
    refine ⟨by rw [hn]; exact s1.next, by rw [hbs]; exact s1.bb, fun i h3 h4 h5 => by rw [ho, if_neg h4]; exact s1.old i h3 h4 h5, by rw [ho, if_pos rfl]; exact s3.mm, v1, by rw [ho, if_neg ok.om]; exact o1, acc_back a1 a3 hn fun i h3 h4 => ?_⟩
    have hne : i ≠ I.pm := by have := ok.m1; omega
    rw [ho, if_neg hne]
    exact (log i h4 fun h => hne (h2 i h)).symm
  unfold wrapA
  split
  · rename_i h0
    have hA : H3.obj I.po = H1.obj I.po ∧ ∀ i ∈ H3.ws, i = I.pm := by
      rcases alt with h | ⟨_, _, _, h⟩
      · exact h
      · rw [h0] at h; cases h
    refine ⟨H1, by simp [AV.noNew], .refl, caseA hA H1 rfl rfl fun i => ?_⟩
    split
    · rename_i hi; subst hi; exact (log _ pm1 (by rw [h0]; simp)).symm
    · rfl
  · rename_i ws h0
    have hnn : (AV.tup []).noNew H1.next 4 = true := rfl
    rw [hnn]
    by_cases hall : (H3.ws).all (fun i => (H3.obj i).noNew H1.next) = true
    · rw [hall]
      have hA : H3.obj I.po = H1.obj I.po ∧ ∀ i ∈ H3.ws, i = I.pm := by
        rcases alt with h | ⟨v, h1, ⟨id, off, len, lo, ex, e, h2, h3⟩, h4⟩
        · exact h
        · have := List.all_eq_true.1 hall _ h4
          rw [h1, h2] at this
          simp [AObj.noNew, AV.noNew] at this
          omega
      have hobj : ∀ i, (H3.ws.foldr (fun i o => upd o i ((H3.obj i).clean H1.next)) H1.obj) i = if i = I.pm then H3.obj i else H1.obj i := by
        intro i
        rw [foldr_upd]
        by_cases hi : i = I.pm
        · subst hi
          rw [if_pos rfl]
          by_cases hm : I.pm ∈ H3.ws
          · rw [if_pos hm, s3.mm]; rfl
          · rw [if_neg hm]; exact (log _ pm1 hm).symm
        · rw [if_neg hi, if_neg fun h => hi (hA.2 i h)]
      refine ⟨_, rfl, ?_, caseA hA _ rfl rfl hobj⟩
      refine ⟨Nat.le_refl _, rfl, fun i h => List.mem_append.2 (.inr h), fun i h1 h2 => ?_, fun i h => ?_, .inl ⟨?_, fun i h => ?_⟩⟩
      · refine (hobj i).trans ?_
        split
        · rename_i hi
          exact log i (by omega) fun h => h2 (List.mem_append.2 (.inl (List.mem_filter.2 ⟨h, by simpa using h1⟩)))
        · rfl
      · rcases List.mem_append.1 h with h | h
        · obtain ⟨h1, h2⟩ := List.mem_filter.1 h
          exact .inr ⟨(wsI i h1).1, by simpa using h2⟩
        · exact .inl h
      · refine (hobj _).trans ?_
        rw [if_neg ok.om]
      · rcases List.mem_append.1 h with h | h
        · exact .inr (hA.2 i (List.mem_filter.1 h).1)
        · exact .inl h
    · have hall' : (H3.ws).all (fun i => (H3.obj i).noNew H1.next) = false := by simpa using hall
      rw [hall']
      refine ⟨_, rfl, ⟨nx, rfl, fun i h => List.mem_append.2 (.inr h), fun i h1 h2 => ?_, fun i h => ?_, ?_⟩, ⟨Nat.le_trans s1.next nx, s1.bb, s3.old, s3.mm, v3, o3, a3.other (Nat.le_refl _) fun _ _ _ => rfl⟩⟩
      · exact log i (by omega) fun h => h2 (List.mem_append.2 (.inl (List.mem_filter.2 ⟨h, by simpa using h1⟩)))
      · rcases List.mem_append.1 h with h | h
        · obtain ⟨h1, h2⟩ := List.mem_filter.1 h
          exact .inr ⟨(wsI i h1).1, by simpa using h2⟩
        · exact .inl h
      · rcases alt with ⟨h1, h2⟩ | ⟨v, h1, h2, h3⟩
        · refine .inl ⟨h1, fun i h => ?_⟩
          rcases List.mem_append.1 h with h | h
          · exact .inr (h2 i (List.mem_filter.1 h).1)
          · exact .inl h
        · exact .inr ⟨v, h1, h2, fun h => List.mem_append.2 (.inl (List.mem_filter.2 ⟨h3, by simpa using h⟩))⟩
end Ids

theorem iaddr_arr {n e id off : Nat} {k : IntKind} {i : Nat} (h : i < n) : iaddrA (some n) e (.ptr id off) (.int k i) = some (.ptr id (off + i * e)) := by
  simp only [iaddrA]; rw [if_pos (by omega)]; simp
theorem storeI {H : Heap} {m : Mo} {rel : Option Nat} {id i : Nat} {x : Int} (h : i < 8) : stO H 1 id i (.cells m.cells rel) (some [.int .i64 x]) = some ((H.kill rel).set id (.cells (m.setI i x).cells none)) := by
  rw [stO_some, if_pos ⟨rfl, by show i + 1 ≤ 8; omega⟩, put_cons, put_nil, set_cells h]
theorem fillL_len : ∀ (k i left : Nat) (m : Mo), left ≤ 12 → (fillL k i left m).length ≤ 13 ^ k := by
  intro k
  induction k with
  | zero => intro i left m h; simp only [fillL]; split <;> simp
  | succ k ih =>
    intro i left m h
    cases k with
    | zero => simp [fillL]
    | succ k =>
      simp only [fillL]
      rw [List.length_flatMap]
      have : ∀ l : List Nat, (l.map fun e => (fillL (k + 1) (i + 1) (left - e) (m.setI i (e : Nat))).length).sum ≤ l.length * 13 ^ (k + 1) := by
        intro l
        induction l with
        | nil => simp
        | cons e l ih2 =>
          simp only [List.map_cons, List.sum_cons, List.length_cons, Nat.succ_mul]
          have := ih (i + 1) (left - e) (m.setI i (e : Nat)) (by omega)
          omega
      refine Nat.le_trans (this _) ?_
      rw [Nat.pow_succ 13 (k + 1), Nat.mul_comm (13 ^ (k + 1)) 13]
      apply Nat.mul_le_mul_right
      simp; omega

section
variable {I : Ids} {H0 : Heap} {n : Nat} {s : List Jtm} {k : KF} {Q : AV → Heap → Prop}
open Ids
/-- The recursion does its work for k variables. -/
def FillOK (I : Ids) (H0 : Heap) (n k : Nat) : Prop := ∀ (i left : Nat) (H : Heap) (m : Mo) (L : List Mo), i + k = n → left ≤ 12 → I.S H0 H m L → H.base ≤ H.next → L.length + 13 ^ k < 2 ^ 30 →
  Res (callI tab 86 [.int .i64 i, .int .i64 left, .ptr I.pn 0, .ptr I.pm 0, .ptr I.pf 0, .ptr I.po 0] H) fun e H' => e = .tup [] ∧ H'.base ≤ H'.next ∧ I.Tr H0 H H' ∧ ∃ m', I.S H0 H' m' (L ++ fillL k i left m) ∧ Alike i k m m'

theorem l86_1 (ok : I.Ok H0 n) (hn8 : n ≤ 8) {kk i left : Nat} (ih : FillOK I H0 n (kk + 1)) (hik : i + (kk + 2) = n) (hleft : left ≤ 12) : ∀ (j : Nat) (σ : Sig) (H : Heap) (m : Mo) (L : List Mo), j ≤ left + 1 → σ 0 = .int .i64 (i : Nat) → σ 1 = .int .i64 (left : Nat) → σ 3 = .ptr I.pm 0 → σ 4 = .ptr I.pf 0 → σ 8 = .int .i64 (pr j) →
    I.S H0 H m L → H.base ≤ H.next → L.length + j * 13 ^ (kk + 1) < 2 ^ 30 →
    (∀ σ' H' m', H'.base ≤ H'.next → I.Tr H0 H H' → I.S H0 H' m' (L ++ ((List.range j).reverse).flatMap fun e => fillL (kk + 1) (i + 1) (left - e) (m.setI i (e : Nat))) → Alike i (kk + 2) m m' → Res (ai (callI tab) s k .nrm σ' H') Q) →
    Res (li (callI tab) L86_1 (.inBlock 1 :: s) k σ H) Q := by
  intro j
  induction j with
  | zero =>
    intro σ H m L hj h0 h1 h3 h4 h8 hS hb hl hQ
    rw [pr_zero] at h8
    obtain ⟨il, hil⟩ : ∃ x, x = Jtm.inLoop L86_1 := ⟨_, rfl⟩; rw [li_eq' il hil]
    simp -implicitDefEqProofs (disch := first | omega | with_unfolding_all exact eqR (Eq.refl _)) [nums, -getElem!_pos, -Int.natCast_add, -Int.natCast_mul, -Int.natCast_ediv, L86_1, S86_0, h0, h1, h3, h4, h8]
    subst hil
    try simp -implicitDefEqProofs (disch := first | omega | with_unfolding_all exact eqR (Eq.refl _)) [nums, -getElem!_pos, -Int.natCast_add, -Int.natCast_mul, -Int.natCast_ediv]
    exact hQ _ H m hb .refl (by simpa using hS) fun _ _ _ => rfl
  | succ j jh =>
    intro σ H m L hj h0 h1 h3 h4 h8 hS hb hl hQ
    rw [pr_succ] at h8
    have hmm := hS.mm
    have hS1 : I.S H0 (H.set I.pm (.cells (m.setI i (j : Nat)).cells none)) (m.setI i (j : Nat)) L := hS.store ok
    have hT1 : I.Tr H0 H (H.set I.pm (.cells (m.setI i (j : Nat)).cells none)) := set_tr ok.b0 ok.om
    have hpf : H.obj I.pf = .cells [I.fnv] none := by rw [hS.old _ ok.f1 ok.fm ok.fo]; exact ok.hf
    have hfm := ok.fm
    unfold Ids.fnv at hpf
    have hl' : L.length + (13 ^ (kk + 1) + j * 13 ^ (kk + 1)) < 2 ^ 30 := by
      have : (j + 1) * 13 ^ (kk + 1) = j * 13 ^ (kk + 1) + 13 ^ (kk + 1) := Nat.succ_mul _ _
      omega
    obtain ⟨il, hil⟩ : ∃ x, x = Jtm.inLoop L86_1 := ⟨_, rfl⟩; rw [li_eq' il hil]
    simp -implicitDefEqProofs (disch := first | omega | with_unfolding_all exact eqR (Eq.refl _)) [nums, -getElem!_pos, -Int.natCast_add, -Int.natCast_mul, -Int.natCast_ediv, L86_1, S86_0, h0, h1, h3, h4, h8, iaddr_arr, storeI, hmm, hpf, load1, hfm]
    refine .call (ih (i + 1) (left - j) _ _ L (by omega) (by omega) hS1 hb (by omega)) fun e H2 ⟨he, hb2, hT2, m2, hS2, hA2⟩ => ?_
    subst he
    have hlen := fillL_len (kk + 1) (i + 1) (left - j) (m.setI i (j : Nat)) (by omega)
    simp -implicitDefEqProofs (disch := first | omega | with_unfolding_all exact eqR (Eq.refl _)) [nums, -getElem!_pos, -Int.natCast_add, -Int.natCast_mul, -Int.natCast_ediv, wrap_pr, h0, h1, h3, h4, h8]
    subst hil
    try simp -implicitDefEqProofs (disch := first | omega | with_unfolding_all exact eqR (Eq.refl _)) [nums, -getElem!_pos, -Int.natCast_add, -Int.natCast_mul, -Int.natCast_ediv]
    have hAm : Alike i (kk + 2) m m2 := fun q hq hc => by
      rw [← hA2 q hq (by omega), get_set (by omega), if_neg (by omega)]
    refine jh _ H2 m2 (L ++ fillL (kk + 1) (i + 1) (left - j) (m.setI i (j : Nat))) (by omega) ?_ ?_ ?_ ?_ ?_ hS2 hb2 (by rw [List.length_append]; omega) fun σ' H' m' hb' hT' hS' hA' => hQ σ' H' m' hb' (hT1.trans (hT2.trans hT')) ?_ fun q hq hc => (hAm q hq hc).trans (hA' q hq hc)
    any_goals (first | (simp [h0, h1, h3, h4]; done) | skip)
    have hfl : ((List.range j).reverse).flatMap (fun e => fillL (kk + 1) (i + 1) (left - e) (m2.setI i (e : Nat))) = ((List.range j).reverse).flatMap fun e => fillL (kk + 1) (i + 1) (left - e) (m.setI i (e : Nat)) := by
      congr 1
      funext e
      refine fillL_alike _ _ _ _ _ (by omega) fun q hq hc => ?_
      rw [get_set (by omega), get_set (by omega)]
      by_cases hqi : q = i
      · rw [if_pos hqi, if_pos hqi]
      · rw [if_neg hqi, if_neg hqi]; exact (hAm q hq (by omega)).symm
    rw [hfl] at hS'
    rw [List.range_succ, List.reverse_append, List.reverse_singleton, List.singleton_append, List.flatMap_cons, ← List.append_assoc]
    exact hS'

theorem fill_ok (ok : I.Ok H0 n) (hn8 : n ≤ 8) : ∀ k, FillOK I H0 n k := by
  intro k
  induction k with
  | zero =>
    intro i left H m L hik hleft hS hb hl
    refine .hide fun Q hQ => .enter tab_86 (by simp [AF86]) (.inr (by simp)) ?_
    have hS0 : I.S H0 H.begin m L := ⟨hS.next, by show H0.base ≤ H.next; have := ok.bn; have := hS.next; omega, hS.old, hS.mm, hS.out.imp fun v h => ⟨h.1, h.2.other (Nat.le_refl _) fun _ _ _ => rfl⟩⟩
    have hpn : H.obj I.pn = .cells [.int .i64 n] none := by rw [hS.old _ ok.n1 ok.nm ok.no]; exact ok.hn
    have hin : i = n := by omega
    subst hin
    by_cases h0 : left = 0
    · subst h0
      obtain ⟨v, hv, ha⟩ := hS0.out
      obtain ⟨v', H', e, hpo, hS1, hT1, hb1, hfl⟩ := hS0.push ok (Nat.le_refl _) (by omega) hv ha
      have hv' : H.obj I.po = .cells [v] none := hv
      have hmm : H.obj I.pm = .cells m.cells none := hS.mm
      simp -implicitDefEqProofs (disch := first | omega | with_unfolding_all exact eqR (Eq.refl _)) [nums, -getElem!_pos, -Int.natCast_add, -Int.natCast_mul, -Int.natCast_ediv, AF86, hpn, load1, hv', hmm, bslR_mono, e, hpo, hfl, store1]
      obtain ⟨H2, ew, hT2, hS2⟩ := wrapS ok hb hS hT1 hS1
      rw [ew]
      have hbb := hT2.base
      have hnn := hT2.next
      exact .mk (hQ _ _ ⟨rfl, by omega, hT2, m, by simpa [fillL] using hS2, fun _ _ _ => rfl⟩)
    · simp -implicitDefEqProofs (disch := first | omega | with_unfolding_all exact eqR (Eq.refl _)) [nums, -getElem!_pos, -Int.natCast_add, -Int.natCast_mul, -Int.natCast_ediv, AF86, hpn, load1]
      obtain ⟨H2, ew, hT2, hS2⟩ := wrapS ok hb hS .refl hS0
      rw [wrap_begin rfl] at ew
      simp only [Prod.mk.injEq, true_and] at ew
      subst ew
      exact .mk (hQ _ _ ⟨rfl, hb, hT2, m, by simpa [fillL, h0] using hS2, fun _ _ _ => rfl⟩)
  | succ k ih =>
    intro i left H m L hik hleft hS hb hl
    refine .hide fun Q hQ => .enter tab_86 (by simp [AF86]) (.inr (by simp)) ?_
    have hS0 : I.S H0 H.begin m L := ⟨hS.next, by show H0.base ≤ H.next; have := ok.bn; have := hS.next; omega, hS.old, hS.mm, hS.out.imp fun v h => ⟨h.1, h.2.other (Nat.le_refl _) fun _ _ _ => rfl⟩⟩
    have hpn : H.obj I.pn = .cells [.int .i64 n] none := by rw [hS.old _ ok.n1 ok.nm ok.no]; exact ok.hn
    have hmm : H.obj I.pm = .cells m.cells none := hS.mm
    have hom := ok.om
    cases k with
    | zero =>
      have hS1 : I.S H0 (H.begin.set I.pm (.cells (m.setI i (left : Nat)).cells none)) (m.setI i (left : Nat)) L := hS0.store ok
      have hT1 : I.Tr H0 H.begin (H.begin.set I.pm (.cells (m.setI i (left : Nat)).cells none)) := set_tr ok.b0 ok.om
      obtain ⟨v, hv, ha⟩ := hS1.out
      obtain ⟨v', H', e, hpo, hS2, hT2, hb2, hfl⟩ := hS1.push ok (Nat.le_refl _) (by omega) hv ha
      have hv' : H.obj I.po = .cells [v] none := by
        simp only [Heap.set, upd] at hv
        rw [if_neg hom] at hv; exact hv
      simp -implicitDefEqProofs (disch := first | omega | with_unfolding_all exact eqR (Eq.refl _)) [nums, -getElem!_pos, -Int.natCast_add, -Int.natCast_mul, -Int.natCast_ediv, AF86, hpn, load1, hmm, iaddr_arr, storeI, hv', hom, bslR_mono, e, hpo, hfl, store1]
      obtain ⟨H3, ew, hT3, hS3⟩ := wrapS ok hb hS (hT1.trans hT2) hS2
      rw [ew]
      have hbb := hT3.base
      have hnn := hT3.next
      refine .mk (hQ _ _ ⟨rfl, by omega, hT3, _, by simpa [fillL] using hS3, fun q hq hc => ?_⟩)
      rw [get_set (by omega), if_neg (by omega)]
    | succ k =>
      simp -implicitDefEqProofs (disch := first | omega | with_unfolding_all exact eqR (Eq.refl _)) [nums, -getElem!_pos, -Int.natCast_add, -Int.natCast_mul, -Int.natCast_ediv, AF86, hpn, load1, S86_2]
      refine l86_1 (I := I) (H0 := H0) (n := n) (kk := k) (i := i) (left := left) ok hn8 ih (by omega) hleft (left + 1) _ H.begin m L (Nat.le_refl _) ?_ ?_ ?_ ?_ ?_ hS0 (Nat.le_refl _) ?_ fun σ' H' m' hb' hT' hS' hA' => ?_
      any_goals (first | (simp [pr_succ]; done) | skip)
      · have : 13 ^ (k + 1 + 1) = 13 ^ (k + 1) * 13 := Nat.pow_succ 13 (k + 1)
        have h2 : (left + 1) * 13 ^ (k + 1) ≤ 13 * 13 ^ (k + 1) := Nat.mul_le_mul_right _ (by omega)
        omega
      · simp -implicitDefEqProofs (disch := first | omega | with_unfolding_all exact eqR (Eq.refl _)) [nums, -getElem!_pos, -Int.natCast_add, -Int.natCast_mul, -Int.natCast_ediv]
        obtain ⟨H3, ew, hT3, hS3⟩ := wrapS ok hb hS hT' hS'
        rw [ew]
        have hbb := hT3.base
        have hnn := hT3.next
        exact .mk (hQ _ _ ⟨rfl, by omega, hT3, m', hS3, hA'⟩)
end
end Go.Mach.Ytl
set_option linter.unusedSimpArgs false
set_option linter.unusedVariables false
set_option maxRecDepth 100000
namespace Go.Mach
theorem Acc.frz' {α : Type} {t : Ty α} {H0 H : Heap} {v : AV} {l : List α} (h : Acc t H0 H v l) (hb : H.base ≤ H0.next) {b : Nat} (hbn : b ≤ H0.next) (m : Nat) : ∃ v' H', Mach.frz b (m + 1) H v = some (v', H') ∧ ML t v' l ∧ H'.ws = H.ws := by
  cases h with
  | nil => exact ⟨.nils, H, rfl, .inl ⟨rfl, rfl⟩, rfl⟩
  | vec => exact ⟨.vec 0 true [], H, rfl, .inr ⟨true, rfl⟩, rfl⟩
  | live id rel l n hn hobj hid hidn hrel hne =>
    subst hn
    have hl : (t.row l).length = l.length * t.e := t.row_length l
    refine ⟨.vec l.length false (t.row l), (H.kill rel).set id (.frz (t.row l)), ?_, .inr ⟨false, rfl⟩, ?_⟩
    · rw [Mach.frz, if_neg (by omega), hobj]
      simp only [t.row_pure, if_true]
      rw [if_pos ⟨by omega, Nat.le_refl _⟩, List.drop_zero, List.take_of_length_le (by omega)]
      rfl
    · have hk : (H.kill rel).ws = H.ws ∧ (H.kill rel).base = H.base := by
        cases rel with
        | none => exact ⟨rfl, rfl⟩
        | some r =>
          have := (hrel r rfl).1
          refine ⟨?_, rfl⟩
          simp only [Heap.kill, Heap.set]; rw [if_neg (by omega)]
      simp only [Heap.set]
      rw [hk.2, if_neg (by omega)]; exact hk.1
namespace Ytl
section
variable {Q : AV → Heap → Prop}
/-- All monomials of degree d in n variables. -/
def allL (n d : Nat) : List Mo := fillL n 0 d Mo.zero
theorem call_46 {n d : Nat} {H : Heap} (hn : n ≤ 8) (hd : d ≤ 12) : Res (callI tab 46 [.int .i64 n, .int .i64 d] H) fun e H' => H' = H ∧ ∃ v, e = .tup [v, .int .i64 0] ∧ ML tM v (allL n d) := by
  refine .hide fun Q hQ => .enter tab_46 (by simp [AF46]) (.inr (by simp)) ?_
  simp -implicitDefEqProofs (disch := first | omega | with_unfolding_all exact eqR (Eq.refl _)) [nums, -getElem!_pos, -Int.natCast_add, -Int.natCast_mul, -Int.natCast_ediv, AF46, load1, S46_0, store1]
  have hS0 : ∀ (K : Heap), K = (((((H.begin.new (.cells [.int .i64 n] none)).new (.cells [.nils] none)).set (H.next + 1) (.cells [.vec 0 true []] none)).new (.cells Mo.zero.cells none)).new (.cells [.nilf] none)).set (H.next + 1 + 1 + 1) (.cells [.fn 86 [] [.ptr H.next 0, .ptr (H.next + 1 + 1) 0, .ptr (H.next + 1 + 1 + 1) 0, .ptr (H.next + 1) 0]] none) →
      Ids.Ok ⟨H.next, H.next + 1, H.next + 1 + 1, H.next + 1 + 1 + 1⟩ K n ∧ Ids.S ⟨H.next, H.next + 1, H.next + 1 + 1, H.next + 1 + 1 + 1⟩ K K Mo.zero [] ∧ K.base = H.next ∧ K.ws = [] ∧ K.next = H.next + 4 := by
    intro K hK
    have hnx : K.next = H.next + 4 := by rw [hK]; rfl
    have hbs : K.base = H.next := by rw [hK]; rfl
    have hws : K.ws = [] := by rw [hK]; simp [Heap.set, Heap.new, Heap.begin]; omega
    have a1 : ¬ H.next = H.next + 1 + 1 + 1 := by omega
    have a2 : ¬ H.next = H.next + 1 + 1 := by omega
    have a3 : ¬ H.next + 1 + 1 = H.next := by omega
    have a4 : H.next ≤ H.next + 1 + 1 := by omega
    refine ⟨⟨by simp [hnx], by simp [hnx], by simp [hnx], by simp [hnx], by simp, by simp [a2], by simp [a3], by simp, by simp, by simp [hbs, a4], by simp [hbs], by simp [hbs, hnx], ?_, ?_⟩, ⟨Nat.le_refl _, Nat.le_refl _, fun _ _ _ _ => rfl, ?_, .vec 0 true [], ?_, .vec⟩, hbs, hws, hnx⟩
    all_goals (rw [hK]; simp [Ids.fnv, a1, a2, a3])
  obtain ⟨ok, hS, hbase, hws, hnext⟩ := hS0 _ rfl
  have hfill := fill_ok ok hn n 0 d _ Mo.zero [] (by omega) hd hS (by rw [hbase, hnext]; omega) (by
    have : 13 ^ n ≤ 13 ^ 8 := Nat.pow_le_pow_right (by omega) hn
    simp; omega)
  refine .call hfill fun e H2 ⟨he, hb2, hT, m', hS2, hA⟩ => ?_
  subst he
  obtain ⟨v, hv, ha⟩ := hS2.out
  have hv' : H2.obj (H.next + 1) = .cells [v] none := hv
  have hb3 : H2.base = H.next := hT.base.trans hbase
  have hw2 : H2.ws = [] := by
    apply List.eq_nil_iff_forall_not_mem.2
    intro i hi
    rcases hT.wsI i hi with h | ⟨h1, h2⟩
    · rw [hws] at h; cases h
    · omega
  obtain ⟨v', H3, hz, hml, hw3⟩ := ha.frz' (by rw [hb3, hnext]; omega) (b := H.next) (by rw [hnext]; omega) 4
  have hz' : frz H.next 5 H2 v = some (v', H3) := hz
  have hnn := hml.nonew H.next 2
  have hq : (AV.tup [v', .int .i64 0]).noNew H.next 4 = true := by simp [hnn]
  have hw3' : H3.ws = [] := hw3.trans hw2
  simp -implicitDefEqProofs (disch := first | omega | with_unfolding_all exact eqR (Eq.refl _)) [nums, -getElem!_pos, -Int.natCast_add, -Int.natCast_mul, -Int.natCast_ediv, load1, hv', hz']
  rw [List.nil_append] at hml
  exact .mk (hQ _ _ ⟨rfl, v', rfl, hml⟩)
theorem call_46n {n d : Int} {H : Heap} (h : ¬ (0 ≤ n ∧ n ≤ 8 ∧ 0 ≤ d ∧ d ≤ 12)) : callI tab 46 [.int .i64 n, .int .i64 d] H = some (.tup [.nils, .int .i64 1], H) := by
  refine callI_enter tab_46 (by simp [AF46]) (.inr (by simp)) ?_
  by_cases h1 : n < 0
  · simp -implicitDefEqProofs (disch := first | omega | with_unfolding_all exact eqR (Eq.refl _)) [nums, -getElem!_pos, -Int.natCast_add, -Int.natCast_mul, -Int.natCast_ediv, AF46, load1]
  · by_cases h2 : 8 < n
    · simp -implicitDefEqProofs (disch := first | omega | with_unfolding_all exact eqR (Eq.refl _)) [nums, -getElem!_pos, -Int.natCast_add, -Int.natCast_mul, -Int.natCast_ediv, AF46, load1]
    · by_cases h3 : d < 0
      · simp -implicitDefEqProofs (disch := first | omega | with_unfolding_all exact eqR (Eq.refl _)) [nums, -getElem!_pos, -Int.natCast_add, -Int.natCast_mul, -Int.natCast_ediv, AF46, load1]
      · have h4 : 12 < d := by omega
        simp -implicitDefEqProofs (disch := first | omega | with_unfolding_all exact eqR (Eq.refl _)) [nums, -getElem!_pos, -Int.natCast_add, -Int.natCast_mul, -Int.natCast_ediv, AF46, load1]
end
end Ytl
end Go.Mach
