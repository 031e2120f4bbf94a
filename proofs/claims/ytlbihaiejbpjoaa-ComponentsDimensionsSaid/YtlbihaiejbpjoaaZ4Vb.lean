/-
  Pruned copy of the text Vb. By an AI agent.
-/
import Derived.Test.YtlbihaiejbpjoaaZ4Se
set_option linter.unusedSimpArgs false
set_option linter.unusedVariables false
set_option maxRecDepth 100000
namespace Go.Mach.Ytl
open Go.Mach
def onesTo (s : Nat) : Nat → Nat
  | 0 => 0
  | j + 1 => onesTo s j + s / 2 ^ j % 2
def onesN (s : Nat) : Nat := onesTo s 8
theorem onesTo_le {s : Nat} : ∀ j, onesTo s j ≤ j
  | 0 => Nat.le_refl _
  | j + 1 => by
    have := onesTo_le (s := s) j
    have h2 : s / 2 ^ j % 2 < 2 := Nat.mod_lt _ (by omega)
    simp only [onesTo]; omega
theorem andNot_all : ((List.range 16).all fun a => (List.range 16).all fun b => (andNotK .i64 (a : Nat) (b : Nat) == ((a &&& (15 - b) : Nat) : Int)) && ((a &&& (15 - b) == 0) == ((List.range 8).all fun q => !a.testBit q || b.testBit q))) = true := by decide +kernel
theorem andNot_small {a b : Nat} (ha : a < 16) (hb : b < 16) : andNotK .i64 (a : Nat) (b : Nat) = 0 ↔ ∀ q, q < 8 → a.testBit q = true → b.testBit q = true := by
  have h := (List.all_eq_true.1 ((List.all_eq_true.1 andNot_all) a (by simpa using ha))) b (by simpa using hb)
  rw [Bool.and_eq_true, beq_iff_eq, beq_iff_eq, Bool.eq_iff_iff, List.all_eq_true] at h
  rw [h.1]
  have h1 := h.2
  simp only [beq_iff_eq, List.mem_range, Bool.or_eq_true, Bool.not_eq_true'] at h1
  have e : (((a &&& (15 - b) : Nat) : Int) = 0) ↔ (a &&& (15 - b) = 0) := by omega
  rw [e, h1]
  refine ⟨fun k q hq hb => ?_, fun k q hq => ?_⟩
  · rcases k q hq with k | k
    · rw [hb] at k; cases k
    · exact k
  · cases hb : a.testBit q with
    | false => exact .inl rfl
    | true => exact .inr (k q hq hb)
theorem comp_all : ((List.range 5).all fun n => (List.range (2 ^ n)).all fun s => (onesN (2 ^ n - 1 - s) + onesN s == n) && ((List.range 8).all fun q => (2 ^ n - 1 - s).testBit q == (decide (q < n) && !s.testBit q))) = true := by decide +kernel
theorem comp_of {n s : Nat} (hn : n ≤ 4) (hs : s < 2 ^ n) : onesN (2 ^ n - 1 - s) + onesN s = n ∧ ∀ q, q < 8 → ((2 ^ n - 1 - s).testBit q = true ↔ q < n ∧ s.testBit q = false) := by
  have h := (List.all_eq_true.1 ((List.all_eq_true.1 comp_all) n (by simp; omega))) s (by simpa using hs)
  rw [Bool.and_eq_true, beq_iff_eq, List.all_eq_true] at h
  refine ⟨h.1, fun q hq => ?_⟩
  have := h.2 q (by simpa using hq)
  rw [beq_iff_eq] at this
  rw [this]; simp
theorem disj_all : ((List.range 5).all fun n => (List.range (2 ^ n)).all fun s => (List.range (2 ^ n)).all fun t => !((List.range 8).all fun q => !(s.testBit q && t.testBit q)) || decide (onesN s + onesN t ≤ n)) = true := by decide +kernel
theorem disj_of {n s t : Nat} (hn : n ≤ 4) (hs : s < 2 ^ n) (ht : t < 2 ^ n) (h : ∀ q, q < 8 → s.testBit q = true → t.testBit q = false) : onesN s + onesN t ≤ n := by
  have k := (List.all_eq_true.1 ((List.all_eq_true.1 ((List.all_eq_true.1 disj_all) n (by simp; omega))) s (by simpa using hs))) t (by simpa using ht)
  rw [Bool.or_eq_true, Bool.not_eq_true', decide_eq_true_eq] at k
  rcases k with k | k
  · rw [List.all_eq_false] at k
    obtain ⟨q, hq, h2⟩ := k
    simp only [Bool.not_eq_true', Bool.not_eq_false, Bool.and_eq_true, Bool.not_eq_true] at h2
    have h3 := h q (by simpa using hq)
    have h4 : s.testBit q = true ∧ t.testBit q = true := by
      cases hs : s.testBit q <;> cases ht : t.testBit q <;> simp_all
    rw [h3 h4.1] at h4; cases h4.2
  · exact k
theorem add_all : ((List.range 5).all fun n => (List.range (2 ^ n)).all fun t => (List.range n).all fun i => t.testBit i || (decide (t < (t ||| 2 ^ i)) && decide ((t ||| 2 ^ i) < 2 ^ n) && decide (onesN t < onesN (t ||| 2 ^ i)))) = true := by decide +kernel
theorem add_of {n t i : Nat} (hn : n ≤ 4) (ht : t < 2 ^ n) (hi : i < n) (hb : t.testBit i = false) : t < (t ||| 2 ^ i) ∧ (t ||| 2 ^ i) < 2 ^ n ∧ onesN t < onesN (t ||| 2 ^ i) := by
  have k := (List.all_eq_true.1 ((List.all_eq_true.1 ((List.all_eq_true.1 add_all) n (by simp; omega))) t (by simpa using ht))) i (by simpa using hi)
  rw [hb, Bool.false_or, Bool.and_eq_true, Bool.and_eq_true, decide_eq_true_eq, decide_eq_true_eq, decide_eq_true_eq] at k
  exact ⟨k.1.1, k.1.2, k.2⟩
theorem pow_small {n s : Nat} (hn : n ≤ 4) (hs : s < 2 ^ n) : s < 16 := by
  have : 2 ^ n ≤ 2 ^ 4 := Nat.pow_le_pow_right (by omega) hn
  omega
theorem sup_small {n : Nat} {m : Mo} (hm : Box n m) (hn : n ≤ 4) : supN m < 2 ^ n := by
  apply Nat.lt_pow_two_of_testBit
  intro i hi
  by_cases h8 : i < 8
  · rw [supN_bit m h8, decide_eq_false_iff_not]
    have := (hm i).2.2 hi; omega
  · have h := supN_lt m
    have : (256 : Nat) ≤ 2 ^ i := by
      have : 2 ^ 8 ≤ 2 ^ i := Nat.pow_le_pow_right (by omega) (by omega)
      omega
    exact Nat.testBit_lt_two_pow (by omega)
def indB (L : List Mo) (t : Nat) : Bool := !(L.any fun m => andNotK .i64 (supN m : Nat) (t : Nat) == 0)
def maxB (L : List Mo) (n t : Nat) : Bool := indB L t && (List.range n).all fun i => t.testBit i || !indB L (t ||| 2 ^ i)
theorem ind_iff {n : Nat} {L : List Mo} {t : Nat} (hn : n ≤ 4) (hL : ∀ m ∈ L, Box n m) (ht : t < 2 ^ n) : indB L t = true ↔ ∀ m ∈ L, ∃ q, q < 8 ∧ 0 < m.get q ∧ t.testBit q = false := by
  unfold indB
  rw [Bool.not_eq_true', List.any_eq_false]
  have key : ∀ m ∈ L, (¬ (andNotK .i64 (supN m : Nat) (t : Nat) == 0) = true ↔ ∃ q, q < 8 ∧ 0 < m.get q ∧ t.testBit q = false) := fun m hm => by
    rw [beq_iff_eq, andNot_small (pow_small hn (sup_small (hL m hm) hn)) (pow_small hn ht)]
    constructor
    · intro h
      obtain ⟨q, h⟩ := Classical.not_forall.1 h
      obtain ⟨hq, h⟩ := Classical.not_imp.1 h
      obtain ⟨h1, h2⟩ := Classical.not_imp.1 h
      rw [supN_bit m hq] at h1
      exact ⟨q, hq, by simpa using h1, by simpa using h2⟩
    · rintro ⟨q, hq, h1, h2⟩ h
      have := h q hq (by rw [supN_bit m hq]; simpa using h1)
      rw [h2] at this; cases this
  exact ⟨fun h m hm => (key m hm).1 (h m hm), fun h m hm => (key m hm).2 (h m hm)⟩
theorem ind_comp {n : Nat} {L P : List Mo} {b : Mo} (hn : n ≤ 4) (hL : ∀ m ∈ L, Box n m) (hi : Irr L P) (hb : b ∈ P) : indB L (2 ^ n - 1 - supN b) = true := by
  have hbb := hi.good.box hL b hb
  have hs := sup_small hbb hn
  rw [ind_iff hn hL (by omega)]
  intro m hm
  obtain ⟨q, hq, h0, h1⟩ := (hi.sem m (hL m hm).nn).2 ⟨m, hm, le_refl'⟩ b hb
  refine ⟨q, hq, by omega, ?_⟩
  have := (comp_of hn hs).2 q hq
  cases h : (2 ^ n - 1 - supN b).testBit q with
  | false => rfl
  | true =>
    have h3 := (this.1 h).2
    rw [supN_bit b hq] at h3
    simp at h3; omega
theorem ind_miss {n : Nat} {L P : List Mo} {t : Nat} (hn : n ≤ 4) (hL : ∀ m ∈ L, Box n m) (hi : Irr L P) (ht : t < 2 ^ n) (h : indB L t = true) : ∃ b ∈ P, onesN (supN b) + onesN t ≤ n := by
  rw [ind_iff hn hL ht] at h
  obtain ⟨u, hu⟩ : ∃ u : Mo, ∀ q, q < 8 → u.get q = if t.testBit q then 3 else 0 := by
    refine ⟨Mo.map2 (fun x _ => if x = 1 then 3 else 0) (primeM t) Mo.zero, fun q hq => ?_⟩
    rw [map2_get hq, prime_get hq]
    cases t.testBit q <;> simp
  have hun : u.nn := nn_get.2 fun q hq => by rw [hu q hq]; split <;> omega
  have hno : ¬ ∃ m ∈ L, Mo.le m u := by
    rintro ⟨m, hm, hle⟩
    obtain ⟨q, hq, h0, h1⟩ := h m hm
    have := le_get.1 hle q hq
    rw [hu q hq, h1] at this
    simp at this; omega
  have h1 : ¬ ∀ b ∈ P, inQ b u := fun k => hno ((hi.sem u hun).1 k)
  obtain ⟨b, h2⟩ := Classical.not_forall.1 h1
  obtain ⟨hb, h3⟩ := Classical.not_imp.1 h2
  have hbb := hi.good.box hL b hb
  refine ⟨b, hb, disj_of hn (sup_small hbb hn) ht fun q hq hs => ?_⟩
  rw [supN_bit b hq] at hs
  cases h5 : t.testBit q with
  | false => rfl
  | true =>
    exfalso
    exact h3 ⟨q, hq, by simpa using hs, by rw [hu q hq, h5]; exact (hbb q).2.1⟩
theorem max_above {n : Nat} {L : List Mo} (hn : n ≤ 4) : ∀ (k t : Nat), t < 2 ^ n → 2 ^ n - t ≤ k → indB L t = true → ∃ r, r < 2 ^ n ∧ maxB L n r = true ∧ onesN t ≤ onesN r := by
  intro k
  induction k with
  | zero => intro t ht hk _; omega
  | succ k ih =>
    intro t ht hk hi
    by_cases hm : maxB L n t = true
    · exact ⟨t, ht, hm, Nat.le_refl _⟩
    · unfold maxB at hm
      rw [hi, Bool.true_and, Bool.not_eq_true, List.all_eq_false] at hm
      obtain ⟨i, hin, h2⟩ := hm
      have hin' : i < n := by simpa using hin
      have h3 : t.testBit i = false ∧ indB L (t ||| 2 ^ i) = true := by
        cases h1 : t.testBit i <;> cases h4 : indB L (t ||| 2 ^ i) <;> simp_all
      obtain ⟨a1, a2, a3⟩ := add_of hn ht hin' h3.1
      obtain ⟨r, r1, r2, r3⟩ := ih _ a2 (by omega) h3.2
      exact ⟨r, r1, r2, by omega⟩
def dimF (l : List Nat) : Int := l.foldl (fun d s => imax d (onesN s : Nat)) (-1)
def leastF (n : Nat) (l : List Nat) : Int := l.foldl (fun d s => imin d (onesN s : Nat)) ((n + 1 : Nat) : Int)
theorem max_fold : ∀ (l : List Nat) (d : Int), d ≤ l.foldl (fun d s => imax d (onesN s : Nat)) d ∧ (∀ s ∈ l, ((onesN s : Nat) : Int) ≤ l.foldl (fun d s => imax d (onesN s : Nat)) d) ∧ (l.foldl (fun d s => imax d (onesN s : Nat)) d = d ∨ ∃ s ∈ l, l.foldl (fun d s => imax d (onesN s : Nat)) d = (onesN s : Nat))
  | [], d => ⟨Int.le_refl _, fun _ h => (nomatch h), .inl rfl⟩
  | a :: l, d => by
    obtain ⟨h1, h2, h3⟩ := max_fold l (imax d (onesN a : Nat))
    rw [List.foldl_cons]
    have h4 : d ≤ imax d (onesN a : Nat) ∧ ((onesN a : Nat) : Int) ≤ imax d (onesN a : Nat) ∧ (imax d (onesN a : Nat) = d ∨ imax d (onesN a : Nat) = (onesN a : Nat)) := by unfold imax; split <;> omega
    refine ⟨by omega, fun s hs => ?_, ?_⟩
    · rcases List.mem_cons.1 hs with e | hs
      · subst e; omega
      · exact h2 s hs
    · rcases h3 with h3 | ⟨s, hs, h3⟩
      · rcases h4.2.2 with e | e
        · exact .inl (by rw [h3, e])
        · exact .inr ⟨a, by simp, by rw [h3, e]⟩
      · exact .inr ⟨s, by simp [hs], h3⟩
theorem min_fold : ∀ (l : List Nat) (d : Int), l.foldl (fun d s => imin d (onesN s : Nat)) d ≤ d ∧ (∀ s ∈ l, l.foldl (fun d s => imin d (onesN s : Nat)) d ≤ (onesN s : Nat)) ∧ (l.foldl (fun d s => imin d (onesN s : Nat)) d = d ∨ ∃ s ∈ l, l.foldl (fun d s => imin d (onesN s : Nat)) d = (onesN s : Nat))
  | [], d => ⟨Int.le_refl _, fun _ h => (nomatch h), .inl rfl⟩
  | a :: l, d => by
    obtain ⟨h1, h2, h3⟩ := min_fold l (imin d (onesN a : Nat))
    rw [List.foldl_cons]
    have h4 : imin d (onesN a : Nat) ≤ d ∧ imin d (onesN a : Nat) ≤ ((onesN a : Nat) : Int) ∧ (imin d (onesN a : Nat) = d ∨ imin d (onesN a : Nat) = (onesN a : Nat)) := by unfold imin; split <;> omega
    refine ⟨by omega, fun s hs => ?_, ?_⟩
    · rcases List.mem_cons.1 hs with e | hs
      · subst e; omega
      · exact h2 s hs
    · rcases h3 with h3 | ⟨s, hs, h3⟩
      · rcases h4.2.2 with e | e
        · exact .inl (by rw [h3, e])
        · exact .inr ⟨a, by simp, by rw [h3, e]⟩
      · exact .inr ⟨s, by simp [hs], h3⟩
theorem dim_law {n : Nat} {L P : List Mo} {S : List Nat} (hn : n ≤ 4) (hL : ∀ m ∈ L, Box n m) (hi : Irr L P) (hs : ∀ s, s ∈ S ↔ ∃ a ∈ P, supN a = s) : dimF ((List.range (2 ^ n)).filter (maxB L n)) = (n : Int) - leastF n S := by
  obtain ⟨a1, a2, a3⟩ := max_fold ((List.range (2 ^ n)).filter (maxB L n)) (-1)
  obtain ⟨b1, b2, b3⟩ := min_fold S ((n + 1 : Nat) : Int)
  have up : ∀ t ∈ (List.range (2 ^ n)).filter (maxB L n), ((onesN t : Nat) : Int) ≤ n - leastF n S := fun t ht => by
    obtain ⟨h1, h2⟩ := List.mem_filter.1 ht
    have hind : indB L t = true := by unfold maxB at h2; rw [Bool.and_eq_true] at h2; exact h2.1
    obtain ⟨b, hb, h3⟩ := ind_miss hn hL hi (by simpa using h1) hind
    have := b2 (supN b) ((hs _).2 ⟨b, hb, rfl⟩)
    unfold leastF
    omega
  have down : ∀ s ∈ S, ∃ t ∈ (List.range (2 ^ n)).filter (maxB L n), (n : Int) - (onesN s : Nat) ≤ (onesN t : Nat) := fun s hsS => by
    obtain ⟨b, hb, e⟩ := (hs s).1 hsS
    have hbb := hi.good.box hL b hb
    have hsm := sup_small hbb hn
    have hind := ind_comp hn hL hi hb
    obtain ⟨r, r1, r2, r3⟩ := max_above hn (2 ^ n) (2 ^ n - 1 - supN b) (by omega) (by omega) hind
    have hc := (comp_of hn hsm).1
    refine ⟨r, List.mem_filter.2 ⟨by simpa using r1, r2⟩, ?_⟩
    rw [← e]; omega
  unfold dimF
  rcases b3 with b3 | ⟨s, hsS, b3⟩
  · -- no prime with so few variables: there is none
    have hS : S = [] := by
      cases S with
      | nil => rfl
      | cons s l =>
        have h1 := b2 s (by simp)
        rw [b3] at h1
        obtain ⟨b, hb, e⟩ := (hs s).1 (by simp)
        have hc := (comp_of hn (sup_small (hi.good.box hL b hb) hn)).1
        rw [← e] at h1; omega
    have hemp : (List.range (2 ^ n)).filter (maxB L n) = [] := by
      rw [List.eq_nil_iff_forall_not_mem]
      intro t ht
      obtain ⟨h1, h2⟩ := List.mem_filter.1 ht
      have hind : indB L t = true := by unfold maxB at h2; rw [Bool.and_eq_true] at h2; exact h2.1
      obtain ⟨b, hb, h3⟩ := ind_miss hn hL hi (by simpa using h1) hind
      have := (hs (supN b)).2 ⟨b, hb, rfl⟩
      rw [hS] at this; cases this
    rw [hemp, hS]
    simp only [List.foldl_nil, leastF]; omega
  · obtain ⟨t, ht, h1⟩ := down s hsS
    have h2 := a2 t ht
    have hle : leastF n S = (onesN s : Nat) := b3
    rcases a3 with a3 | ⟨r, hr, a3⟩
    · rw [a3] at h2; omega
    · have := up r hr
      rw [a3] at h2 ⊢; omega
end Go.Mach.Ytl
