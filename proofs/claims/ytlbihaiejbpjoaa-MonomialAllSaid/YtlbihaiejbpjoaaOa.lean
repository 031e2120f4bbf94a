/-
  The minimal elements of a list: the plain laws. By an AI agent.
-/
import Derived.Test.YtlbihaiejbpjoaaNo
import Derived.Test.YtlbihaiejbpjoaaCe
set_option linter.unusedSimpArgs false
set_option linter.unusedVariables false
namespace Go.Mach.Ytl
open Go.Mach

/-- The sum of the exponents, as a number. -/
def Mo.wt (a : Mo) : Nat := a.x0.toNat + a.x1.toNat + a.x2.toNat + a.x3.toNat + a.x4.toNat + a.x5.toNat + a.x6.toNat + a.x7.toNat
def Mo.nn (a : Mo) : Prop := 0 ≤ a.x0 ∧ 0 ≤ a.x1 ∧ 0 ≤ a.x2 ∧ 0 ≤ a.x3 ∧ 0 ≤ a.x4 ∧ 0 ≤ a.x5 ∧ 0 ≤ a.x6 ∧ 0 ≤ a.x7
theorem valid_nn {a : Mo} (h : a.valid) : a.nn := by unfold Mo.valid at h; unfold Mo.nn; omega
theorem sums {A0 A1 A2 A3 A4 A5 A6 A7 B0 B1 B2 B3 B4 B5 B6 B7 : Nat} (h0 : A0 ≤ B0) (h1 : A1 ≤ B1) (h2 : A2 ≤ B2) (h3 : A3 ≤ B3) (h4 : A4 ≤ B4) (h5 : A5 ≤ B5) (h6 : A6 ≤ B6) (h7 : A7 ≤ B7) (h : ¬ A0 + A1 + A2 + A3 + A4 + A5 + A6 + A7 < B0 + B1 + B2 + B3 + B4 + B5 + B6 + B7) : A0 = B0 ∧ A1 = B1 ∧ A2 = B2 ∧ A3 = B3 ∧ A4 = B4 ∧ A5 = B5 ∧ A6 = B6 ∧ A7 = B7 := by omega
theorem nat_back {x y : Int} (hx : 0 ≤ x) (h : x ≤ y) (e : x.toNat = y.toNat) : x = y := by omega
theorem wt_lt {a b : Mo} (ha : a.nn) (h : Mo.le a b) (hne : a ≠ b) : a.wt < b.wt := by
  apply Decidable.byContradiction; intro hn
  obtain ⟨a0, a1, a2, a3, a4, a5, a6, a7⟩ := a
  obtain ⟨b0, b1, b2, b3, b4, b5, b6, b7⟩ := b
  obtain ⟨n0, n1, n2, n3, n4, n5, n6, n7⟩ := ha
  obtain ⟨l0, l1, l2, l3, l4, l5, l6, l7⟩ := h
  obtain ⟨e0, e1, e2, e3, e4, e5, e6, e7⟩ := sums (Int.toNat_le_toNat l0) (Int.toNat_le_toNat l1) (Int.toNat_le_toNat l2) (Int.toNat_le_toNat l3) (Int.toNat_le_toNat l4) (Int.toNat_le_toNat l5) (Int.toNat_le_toNat l6) (Int.toNat_le_toNat l7) hn
  apply hne
  rw [Mo.mk.injEq]
  exact ⟨nat_back n0 l0 e0, nat_back n1 l1 e1, nat_back n2 l2 e2, nat_back n3 l3 e3, nat_back n4 l4 e4, nat_back n5 l5 e5, nat_back n6 l6 e6, nat_back n7 l7 e7⟩

theorem low_below {l : List Mo} (hl : ∀ x ∈ l, x.nn) : ∀ (n : Nat) (a : Mo), a ∈ l → a.wt ≤ n → ∃ m, Low l m ∧ Mo.le m a := by
  intro n
  induction n with
  | zero =>
    intro a ha hw
    refine ⟨a, ⟨ha, fun d hd hle => ?_⟩, le_refl⟩
    apply Decidable.byContradiction; intro hn
    have := wt_lt (hl d hd) hle hn
    omega
  | succ n ih =>
    intro a ha hw
    by_cases h : ∀ d ∈ l, Mo.le d a → d = a
    · exact ⟨a, ⟨ha, h⟩, le_refl⟩
    · have : ∃ d, d ∈ l ∧ Mo.le d a ∧ d ≠ a := by
        apply Classical.byContradiction; intro hn
        exact h fun d hd hle => Classical.byContradiction fun hne => hn ⟨d, hd, hle, hne⟩
      obtain ⟨d, hd, hle, hne⟩ := this
      have := wt_lt (hl d hd) hle hne
      obtain ⟨m, hm, hml⟩ := ih d hd (by omega)
      exact ⟨m, hm, le_trans hml hle⟩
theorem IsMin.below {l r : List Mo} (h : IsMin l r) (hl : ∀ x ∈ l, x.nn) {a : Mo} (ha : a ∈ l) : ∃ m ∈ r, Mo.le m a := by
  obtain ⟨m, hm, hle⟩ := low_below hl _ a ha (Nat.le_refl _)
  exact ⟨m, (h.mem m).2 hm, hle⟩
theorem IsMin.sub {l r : List Mo} (h : IsMin l r) {a : Mo} (ha : a ∈ r) : a ∈ l := ((h.mem a).1 ha).1
theorem IsMin.nil_iff {l r : List Mo} (h : IsMin l r) (hl : ∀ x ∈ l, x.nn) : r = [] ↔ l = [] := by
  constructor
  · intro hr
    apply List.eq_nil_iff_forall_not_mem.2
    intro a ha
    obtain ⟨m, hm, _⟩ := h.below hl ha
    rw [hr] at hm; cases hm
  · intro hr
    apply List.eq_nil_iff_forall_not_mem.2
    intro a ha
    have := h.sub ha
    rw [hr] at this; cases this
theorem dvd_iff {a c : Mo} : dvd a c = true ↔ Mo.le a c := by unfold dvd; rw [decide_eq_true_eq, min_le]
theorem IsMin.any {l r : List Mo} (h : IsMin l r) (hl : ∀ x ∈ l, x.nn) (y : Mo) : l.any (fun a => dvd a y) = r.any (fun a => dvd a y) := by
  rw [Bool.eq_iff_iff, List.any_eq_true, List.any_eq_true]
  constructor
  · rintro ⟨a, ha, hd⟩
    obtain ⟨m, hm, hle⟩ := h.below hl ha
    exact ⟨m, hm, dvd_iff.2 (le_trans hle (dvd_iff.1 hd))⟩
  · rintro ⟨a, ha, hd⟩
    exact ⟨a, h.sub ha, hd⟩
theorem cmp_irr {a : Mo} : ¬ Mo.cmp a a = 1 := by rw [cmp_self]; omega
theorem cmp_tr {a b c : Mo} (h : Mo.cmp a b = 1) (k : Mo.cmp b c = 1) : Mo.cmp a c = 1 := by
  have h1 := cmp_neg (a := a) (b := b)
  have h2 := cmp_neg (a := b) (b := c)
  have h3 := cmp_neg (a := a) (b := c)
  have := cmp_trans (a := c) (b := b) (c := a) (by omega) (by omega)
  omega
theorem cmp_asymm {a b : Mo} (h : Mo.cmp a b = 1) : ¬ Mo.cmp b a = 1 := by rw [cmp_neg, h]; omega
theorem Desc.nodup {r : List Mo} (h : Desc r) : r.Nodup := by
  unfold Desc at h
  refine h.imp fun {a b} hab he => ?_
  subst he
  exact cmp_irr hab
theorem nodup_len {r : List Mo} : ∀ {l : List Mo}, r.Nodup → (∀ x ∈ r, x ∈ l) → r.length ≤ l.length := by
  induction r with
  | nil => intro l _ _; simp
  | cons a r ih =>
    intro l hn hs
    rw [List.nodup_cons] at hn
    have ha := hs a (by simp)
    have h2 : r.length ≤ (l.erase a).length := ih hn.2 fun x hx => by
      rw [List.mem_erase_of_ne (fun e => by subst e; exact hn.1 hx)]
      exact hs x (by simp [hx])
    rw [List.length_erase_of_mem ha] at h2
    have : 0 < l.length := List.length_pos_of_mem ha
    simp; omega
theorem IsMin.len {l r : List Mo} (h : IsMin l r) : r.length ≤ l.length := nodup_len h.desc.nodup fun x hx => h.sub hx
/-- A strictly decreasing list is known by its elements. -/
theorem Desc.ext {r : List Mo} : ∀ {q : List Mo}, Desc r → Desc q → (∀ m, m ∈ r ↔ m ∈ q) → r = q := by
  induction r with
  | nil =>
    intro q _ _ h
    exact (List.eq_nil_iff_forall_not_mem.2 fun m hm => by have := (h m).2 hm; cases this).symm
  | cons a r ih =>
    intro q hr hq h
    cases q with
    | nil => have := (h a).1 (by simp); cases this
    | cons b q =>
      unfold Desc at hr hq
      rw [List.pairwise_cons] at hr hq
      have hab : a = b := by
        have ha := (h a).1 (by simp)
        have hb := (h b).2 (by simp)
        rcases List.mem_cons.1 ha with e | ha
        · exact e
        · rcases List.mem_cons.1 hb with e | hb
          · exact e.symm
          · exact (cmp_asymm (hr.1 b hb) (hq.1 a ha)).elim
      subst hab
      congr 1
      refine ih hr.2 hq.2 fun m => ⟨fun hm => ?_, fun hm => ?_⟩
      · rcases List.mem_cons.1 ((h m).1 (by simp [hm])) with e | hm'
        · subst e; exact (cmp_irr (hr.1 m hm)).elim
        · exact hm'
      · rcases List.mem_cons.1 ((h m).2 (by simp [hm])) with e | hm'
        · subst e; exact (cmp_irr (hq.1 m hm)).elim
        · exact hm'
theorem IsMin.congr {l l' r r' : List Mo} (h : IsMin l r) (h' : IsMin l' r') (hs : ∀ m, m ∈ l ↔ m ∈ l') : r = r' := by
  refine h.desc.ext h'.desc fun m => ?_
  rw [h.mem, h'.mem]
  unfold Low
  rw [hs m]
  constructor
  · rintro ⟨h1, h2⟩; exact ⟨h1, fun d hd => h2 d ((hs d).2 hd)⟩
  · rintro ⟨h1, h2⟩; exact ⟨h1, fun d hd => h2 d ((hs d).1 hd)⟩
theorem Desc.step {r : List Mo} (h : Desc r) {i : Nat} (h0 : 0 < i) (hi : i < r.length) : Mo.cmp (r[i - 1]'(by omega)) r[i] = 1 :=
  List.pairwise_iff_getElem.1 h (i - 1) i (by omega) hi (by omega)
theorem IsMin.apart {l r : List Mo} (h : IsMin l r) {i k : Nat} (hi : i < r.length) (hk : k < r.length) (hne : k ≠ i) : dvd r[k] r[i] = false := by
  cases hd : dvd r[k] r[i] with
  | false => rfl
  | true =>
    have := ((h.mem r[i]).1 (List.getElem_mem hi)).2 r[k] (h.sub (List.getElem_mem hk)) (dvd_iff.1 hd)
    rcases Nat.lt_or_gt_of_ne hne with hlt | hlt
    · have hp := List.pairwise_iff_getElem.1 h.desc k i hk hi hlt
      rw [this] at hp; exact (cmp_irr hp).elim
    · have hp := List.pairwise_iff_getElem.1 h.desc i k hi hk hlt
      rw [this] at hp; exact (cmp_irr hp).elim
end Go.Mach.Ytl
