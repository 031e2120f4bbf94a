/-
  Pruned copy of the text Se. By an AI agent.
-/
import Derived.Test.YtlbihaiejbpjoaaZ15Sd
set_option linter.unusedSimpArgs false
set_option linter.unusedVariables false
set_option maxRecDepth 100000
namespace Go.Mach.Ytl
open Go.Mach
theorem irr_sub {n : Nat} {L P P' : List Mo} (hL : ∀ m ∈ L, Box n m) (h : Irr L P) (h' : Irr L P') : ∀ a ∈ P, a ∈ P' := by
  intro a ha
  have hb := h.good.box hL
  have hb' := h'.good.box hL
  have one : ∀ {P P' : List Mo}, Irr L P → Irr L P' → ∀ a ∈ P, ∃ b ∈ P', insB b a = true := by
    intro P P' h h' a ha
    have hb := h.good.box hL
    have hb' := h'.good.box hL
    have hd := dual_nn (hb a ha)
    have h1 : ¬ ∀ b ∈ P', inQ b (dualM a) := fun hall => by
      have := (h.sem _ hd).2 ((h'.sem _ hd).1 hall) a ha
      exact dual_not this
    obtain ⟨b, h2⟩ := Classical.not_forall.1 h1
    obtain ⟨h2, h3⟩ := Classical.not_imp.1 h2
    refine ⟨b, h2, ?_⟩
    apply Classical.byContradiction
    intro h4
    exact h3 (dual_in (hb' b h2) h4)
  obtain ⟨b, h2, h3⟩ := one h h' a ha
  obtain ⟨a', h4, h5⟩ := one h' h b h2
  have h6 := h.good.anti a ha a' h4 (insB_trans (hb' b h2).nn h5 h3)
  subst h6
  rw [insB_anti (hb a ha).nn (hb' b h2).nn h5 h3]
  exact h2
theorem irr_unique {n : Nat} {L P P' : List Mo} (hL : ∀ m ∈ L, Box n m) (h : Irr L P) (h' : Irr L P') : P = P' := h.desc.ext h'.desc fun m => ⟨irr_sub hL h h' m, irr_sub hL h' h m⟩
theorem sets_unique {P : List Mo} {S S' : List Int} (h : Sets P S) (h' : Sets P S') : S = S' := by
  have key : ∀ (S S' : List Int), S.Pairwise (· < ·) → S'.Pairwise (· < ·) → (∀ x, x ∈ S ↔ x ∈ S') → S = S' := by
    intro S
    induction S with
    | nil => intro S' _ _ h; cases S' with
      | nil => rfl
      | cons a l => have := (h a).2 (by simp); cases this
    | cons a l ih =>
      intro S' hs hs' h
      cases S' with
      | nil => have := (h a).1 (by simp); cases this
      | cons b l' =>
        have c1 := List.pairwise_cons.1 hs
        have c2 := List.pairwise_cons.1 hs'
        have hab : a = b := by
          rcases List.mem_cons.1 ((h a).1 (by simp)) with e | e
          · exact e
          · rcases List.mem_cons.1 ((h b).2 (by simp)) with e2 | e2
            · exact e2.symm
            · have := c1.1 b e2; have := c2.1 a e; omega
        subst hab
        rw [ih l' c1.2 c2.2 fun x => ?_]
        constructor
        · intro hx
          rcases List.mem_cons.1 ((h x).1 (by simp [hx])) with e | e
          · have := c1.1 x hx; omega
          · exact e
        · intro hx
          rcases List.mem_cons.1 ((h x).2 (by simp [hx])) with e | e
          · have := c2.1 x hx; omega
          · exact e
  exact key S S' h.asc h'.asc fun x => by rw [h.mem, h'.mem]
def bitN (s : Nat) : Nat → Mo
  | 0 => Mo.zero
  | j + 1 => (bitN s j).setI j ((s / 2 ^ j % 2 : Nat) : Int)
def primeM (s : Nat) : Mo := bitN s 8
theorem bitN_get {s : Nat} : ∀ j, j ≤ 8 → ∀ q, (bitN s j).get q = if q < j then ((s / 2 ^ q % 2 : Nat) : Int) else 0
  | 0, _, q => by simp [bitN, zero_get]
  | j + 1, h, q => by
    have ih := bitN_get (s := s) j (by omega)
    rw [bitN, get_set (by omega)]
    by_cases hq : q = j
    · subst hq; rw [if_pos rfl, if_pos (by omega)]
    · rw [if_neg hq, ih q]
      by_cases h2 : q < j
      · rw [if_pos h2, if_pos (by omega)]
      · rw [if_neg h2, if_neg (by omega)]
theorem prime_get {s q : Nat} (h : q < 8) : (primeM s).get q = if s.testBit q then 1 else 0 := by
  rw [primeM, bitN_get 8 (Nat.le_refl _), if_pos h, Nat.testBit_eq_decide_div_mod_eq]
  have : s / 2 ^ q % 2 < 2 := Nat.mod_lt _ (by omega)
  by_cases h : s / 2 ^ q % 2 = 1
  · rw [h]; simp
  · have h0 : s / 2 ^ q % 2 = 0 := by omega
    rw [h0]; simp
theorem inQ_prime {s : Nat} {t : Mo} : inQ (primeM s) t ↔ ∃ q, q < 8 ∧ s.testBit q = true ∧ 1 ≤ t.get q := by
  constructor
  · rintro ⟨q, hq, h0, h1⟩
    rw [prime_get hq] at h0 h1
    by_cases hb : s.testBit q = true
    · rw [if_pos hb] at h1; exact ⟨q, hq, hb, h1⟩
    · rw [if_neg hb] at h0; omega
  · rintro ⟨q, hq, hb, h1⟩
    exact ⟨q, hq, by rw [prime_get hq, if_pos hb]; omega, by rw [prime_get hq, if_pos hb]; exact h1⟩
theorem prime_box {n : Nat} {a : Mo} (ha : Box n a) : Box n (primeM (supN a)) := fun q => by
  by_cases hq : q < 8
  · rw [prime_get hq, supN_bit a hq]
    have := ha q
    by_cases h : 0 < a.get q
    · rw [decide_eq_true h]; simp; omega
    · rw [decide_eq_false h]; simp
  · rw [get_big (by omega)]; omega
theorem sub_all : ((List.range 256).all fun t => (List.range 256).all fun s => ((t &&& (255 - s) == 0) == ((List.range 8).all fun q => !t.testBit q || s.testBit q)) && (!(t &&& (255 - s) == 0) || decide (t ≤ s))) = true := by decide +kernel
theorem sub_iff {s t : Nat} (ht : t < 256) (hs : s < 256) : (andNotK .u8 (t : Int) (s : Int) = 0 ↔ ∀ q, q < 8 → t.testBit q = true → s.testBit q = true) ∧ (andNotK .u8 (t : Int) (s : Int) = 0 → t ≤ s) := by
  have h := (List.all_eq_true.1 ((List.all_eq_true.1 sub_all) t (by simpa using ht))) s (by simpa using hs)
  rw [Bool.and_eq_true, beq_iff_eq, Bool.eq_iff_iff, List.all_eq_true] at h
  rw [andNot_byte ht hs]
  have h1 := h.1
  simp only [beq_iff_eq, List.mem_range, Bool.or_eq_true, Bool.not_eq_true'] at h1
  have e : (((t &&& (255 - s) : Nat) : Int) = 0) ↔ (t &&& (255 - s) = 0) := by omega
  rw [e]
  refine ⟨h1.trans ⟨fun k q hq hb => ?_, fun k q hq => ?_⟩, fun h0 => ?_⟩
  · rcases k q hq with k | k
    · rw [hb] at k; cases k
    · exact k
  · cases hb : t.testBit q with
    | false => exact .inl rfl
    | true => exact .inr (k q hq hb)
  · have h2 := h.2
    rw [h0] at h2
    simpa using h2
theorem Sets.nat {P : List Mo} {S : List Int} (h : Sets P S) {s : Int} (hs : s ∈ S) : ∃ k : Nat, k < 256 ∧ s = (k : Int) := by
  obtain ⟨a, _, e⟩ := (h.mem s).1 hs
  exact ⟨supN a, supN_lt a, e.symm⟩
theorem least_below {P : List Mo} {S : List Int} (h : Sets P S) : ∀ (k : Nat) (s : Nat), s ≤ k → ((s : Nat) : Int) ∈ S → ∃ t : Nat, ((t : Nat) : Int) ∈ S ∧ embB S (t : Nat) = false ∧ ∀ q, q < 8 → t.testBit q = true → s.testBit q = true := by
  intro k
  induction k with
  | zero =>
    intro s hs hm
    have : s = 0 := by omega
    subst this
    refine ⟨0, hm, ?_, fun q _ h => h⟩
    unfold embB
    rw [List.any_eq_false]
    intro x hx
    obtain ⟨t, ht, rfl⟩ := h.nat hx
    simp only [Bool.and_eq_true, Bool.not_eq_true', beq_eq_false_iff_ne, beq_iff_eq, not_and]
    intro hne h0
    have := (sub_iff ht (show 0 < 256 by omega)).2 h0
    exact hne (by omega)
  | succ k ih =>
    intro s hs hm
    cases he : embB S ((s : Nat) : Int) with
    | false => exact ⟨s, hm, he, fun q _ h => h⟩
    | true =>
      unfold embB at he
      rw [List.any_eq_true] at he
      obtain ⟨x, hx, h1⟩ := he
      obtain ⟨t, ht, rfl⟩ := h.nat hx
      simp only [Bool.and_eq_true, Bool.not_eq_true', beq_eq_false_iff_ne, beq_iff_eq] at h1
      obtain ⟨s', hs', e⟩ := h.nat hm
      have e : s = s' := by omega
      subst e
      have h2 := sub_iff ht hs'
      have h3 := h2.2 h1.2
      have h4 := h2.1.1 h1.2
      obtain ⟨r, hr, he, hsub⟩ := ih t (by have := h1.1; omega) hx
      exact ⟨r, hr, he, fun q hq hb => h4 q hq (hsub q hq hb)⟩
theorem rad_le' {n : Nat} {a t : Mo} (ha : Box n a) (ht : t.nn) : Mo.le (rad a) t ↔ Mo.le a (cube t) := by
  rw [le_get, le_get]
  have key : ∀ q, q < 8 → ((rad a).get q ≤ t.get q ↔ a.get q ≤ (cube t).get q) := fun q hq => by
    rw [rad_get hq, cube_get hq]
    have h1 := ha q
    have h2 := nn_get.1 ht q hq
    unfold imin
    split <;> omega
  exact ⟨fun h q hq => (key q hq).1 (h q hq), fun h q hq => (key q hq).2 (h q hq)⟩
theorem cube_nn {t : Mo} (ht : t.nn) : (cube t).nn := nn_get.2 fun q hq => by rw [cube_get hq]; have := nn_get.1 ht q hq; omega
theorem inQ_cube {n : Nat} {b t : Mo} (hb : Box n b) (ht : t.nn) : inQ b (cube t) ↔ inQ (primeM (supN b)) t := by
  rw [inQ_prime]
  constructor
  · rintro ⟨q, hq, h0, h1⟩
    rw [cube_get hq] at h1
    exact ⟨q, hq, by rw [supN_bit b hq]; simpa using h0, by omega⟩
  · rintro ⟨q, hq, h0, h1⟩
    rw [supN_bit b hq] at h0
    have := hb q
    exact ⟨q, hq, by simpa using h0, by rw [cube_get hq]; omega⟩
theorem rad_nn' {n : Nat} {L : List Mo} (hL : ∀ m ∈ L, Box n m) : ∀ x ∈ L.map rad, x.nn := fun x hx => by
  obtain ⟨a, ha, rfl⟩ := List.mem_map.1 hx
  exact rad_nn (hL a ha)
theorem rad_law {n : Nat} {L P out R : List Mo} {S : List Int} (hL : ∀ m ∈ L, Box n m) (hi : Irr L P) (hs : Sets P S) (ho : Mg ((S.filter fun s => !embB S s).map fun s => primeM s.toNat) out) (hR : IsMin (L.map rad) R) : out = R := by
  refine min_unique ho.min hR.self ho.nn (fun x hx => rad_nn' hL x (hR.sub hx)) fun t ht => ?_
  have hbox := hi.good.box hL
  have e1 := hR.any_le (rad_nn' hL) t
  rw [Bool.eq_iff_iff, List.any_eq_true, List.any_eq_true] at e1
  simp only [decide_eq_true_eq] at e1
  rw [ho.sem t ht, e1]
  have e2 : (∃ x ∈ L.map rad, Mo.le x t) ↔ ∃ m ∈ L, Mo.le m (cube t) := by
    constructor
    · rintro ⟨x, hx, h⟩
      obtain ⟨a, ha, rfl⟩ := List.mem_map.1 hx
      exact ⟨a, ha, (rad_le' (hL a ha) ht).1 h⟩
    · rintro ⟨a, ha, h⟩
      exact ⟨rad a, List.mem_map.2 ⟨a, ha, rfl⟩, (rad_le' (hL a ha) ht).2 h⟩
  rw [e2, ← hi.sem _ (cube_nn ht)]
  constructor
  · intro h b hb
    rw [inQ_cube (hbox b hb) ht]
    obtain ⟨r, hr, he, hsub⟩ := least_below hs 256 (supN b) (Nat.le_of_lt (supN_lt b)) ((hs.mem _).2 ⟨b, hb, rfl⟩)
    have := h (primeM r) (List.mem_map.2 ⟨(r : Int), List.mem_filter.2 ⟨hr, by rw [he]; rfl⟩, rfl⟩)
    rw [inQ_prime] at this ⊢
    obtain ⟨q, hq, h1, h2⟩ := this
    exact ⟨q, hq, hsub q hq h1, h2⟩
  · intro h x hx
    obtain ⟨s, hs1, rfl⟩ := List.mem_map.1 hx
    obtain ⟨a, ha, e⟩ := (hs.mem s).1 (List.mem_filter.1 hs1).1
    have := h a ha
    rw [inQ_cube (hbox a ha) ht] at this
    rw [← e]; exact this
theorem filter_at {α : Type} {p : α → Bool} {S : List α} {i : Nat} (hi : i < S.length) (hp : p S[i] = true) : (S.filter p)[((S.take i).filter p).length]? = some S[i] := by
  have e : S.filter p = (S.take i).filter p ++ S[i] :: (S.drop (i + 1)).filter p := by
    have h1 : S = S.take i ++ S[i] :: S.drop (i + 1) := by rw [← List.drop_eq_getElem_cons hi, List.take_append_drop]
    have h2 := congrArg (List.filter p) h1
    rw [List.filter_append, List.filter_cons_of_pos hp] at h2
    exact h2
  rw [e, List.getElem?_append_right (Nat.le_refl _), Nat.sub_self]; rfl
theorem filter_succ {α : Type} {p : α → Bool} {S : List α} {i : Nat} (hi : i < S.length) : (S.take (i + 1)).filter p = (S.take i).filter p ++ if p S[i] then [S[i]] else [] := by
  rw [List.take_succ_eq_append_getElem hi, List.filter_append]
  congr 1
  by_cases h : p S[i] = true
  · rw [List.filter_cons_of_pos h, if_pos h]; rfl
  · rw [List.filter_cons_of_neg h, if_neg h]; rfl
end Go.Mach.Ytl
