/-
  Pruned copy of the text Se. By an AI agent.
-/
import Derived.Test.YtlbihaiejbpjoaaZ17Sd
set_option linter.unusedSimpArgs false
set_option linter.unusedVariables false
set_option maxRecDepth 100000
namespace Go.Mach.Ytl
open Go.Mach
theorem irr_sub {n : Nat} {L P P' : List Mo} (hL : ∀ m ∈ L, Box n m) (h : Irr L P) (h' : Irr L P') : ∀ a ∈ P, a ∈ P' := by
  intro a ha
  have hb := h.good.box hL
  have hb' := h'.good.box hL
  have one : ∀ {P P' : List Mo}, Irr L P → Irr L P' → ∀ a ∈ P, ∃ b ∈ P', insB b a = true := by
    intro P P' h h' a ha
    have hb := h.good.box hL
    have hb' := h'.good.box hL
    have hd := dual_nn (hb a ha)
    have h1 : ¬ ∀ b ∈ P', inQ b (dualM a) := fun hall => by
      have := (h.sem _ hd).2 ((h'.sem _ hd).1 hall) a ha
      exact dual_not this
    obtain ⟨b, h2⟩ := Classical.not_forall.1 h1
    obtain ⟨h2, h3⟩ := Classical.not_imp.1 h2
    refine ⟨b, h2, ?_⟩
    apply Classical.byContradiction
    intro h4
    exact h3 (dual_in (hb' b h2) h4)
  obtain ⟨b, h2, h3⟩ := one h h' a ha
  obtain ⟨a', h4, h5⟩ := one h' h b h2
  have h6 := h.good.anti a ha a' h4 (insB_trans (hb' b h2).nn h5 h3)
  subst h6
  rw [insB_anti (hb a ha).nn (hb' b h2).nn h5 h3]
  exact h2
theorem irr_unique {n : Nat} {L P P' : List Mo} (hL : ∀ m ∈ L, Box n m) (h : Irr L P) (h' : Irr L P') : P = P' := h.desc.ext h'.desc fun m => ⟨irr_sub hL h h' m, irr_sub hL h' h m⟩
theorem asc_ext : ∀ (S S' : List Int), S.Pairwise (· < ·) → S'.Pairwise (· < ·) → (∀ x, x ∈ S ↔ x ∈ S') → S = S' := by
  intro S
  induction S with
  | nil => intro S' _ _ h; cases S' with
    | nil => rfl
    | cons a l => have := (h a).2 (by simp); cases this
  | cons a l ih =>
    intro S' hs hs' h
    cases S' with
    | nil => have := (h a).1 (by simp); cases this
    | cons b l' =>
      have c1 := List.pairwise_cons.1 hs
      have c2 := List.pairwise_cons.1 hs'
      have hab : a = b := by
        rcases List.mem_cons.1 ((h a).1 (by simp)) with e | e
        · exact e
        · rcases List.mem_cons.1 ((h b).2 (by simp)) with e2 | e2
          · exact e2.symm
          · have := c1.1 b e2; have := c2.1 a e; omega
      subst hab
      rw [ih l' c1.2 c2.2 fun x => ?_]
      constructor
      · intro hx
        rcases List.mem_cons.1 ((h x).1 (by simp [hx])) with e | e
        · have := c1.1 x hx; omega
        · exact e
      · intro hx
        rcases List.mem_cons.1 ((h x).2 (by simp [hx])) with e | e
        · have := c2.1 x hx; omega
        · exact e
theorem sets_unique {P : List Mo} {S S' : List Int} (h : Sets P S) (h' : Sets P S') : S = S' := asc_ext S S' h.asc h'.asc fun x => by rw [h.mem, h'.mem]
def bitN (s : Nat) : Nat → Mo
  | 0 => Mo.zero
  | j + 1 => (bitN s j).setI j ((s / 2 ^ j % 2 : Nat) : Int)
def primeM (s : Nat) : Mo := bitN s 8
theorem bitN_get {s : Nat} : ∀ j, j ≤ 8 → ∀ q, (bitN s j).get q = if q < j then ((s / 2 ^ q % 2 : Nat) : Int) else 0
  | 0, _, q => by simp [bitN, zero_get]
  | j + 1, h, q => by
    have ih := bitN_get (s := s) j (by omega)
    rw [bitN, get_set (by omega)]
    by_cases hq : q = j
    · subst hq; rw [if_pos rfl, if_pos (by omega)]
    · rw [if_neg hq, ih q]
      by_cases h2 : q < j
      · rw [if_pos h2, if_pos (by omega)]
      · rw [if_neg h2, if_neg (by omega)]
theorem prime_get {s q : Nat} (h : q < 8) : (primeM s).get q = if s.testBit q then 1 else 0 := by
  rw [primeM, bitN_get 8 (Nat.le_refl _), if_pos h, Nat.testBit_eq_decide_div_mod_eq]
  have : s / 2 ^ q % 2 < 2 := Nat.mod_lt _ (by omega)
  by_cases h : s / 2 ^ q % 2 = 1
  · rw [h]; simp
  · have h0 : s / 2 ^ q % 2 = 0 := by omega
    rw [h0]; simp
theorem sub_all : ((List.range 256).all fun t => (List.range 256).all fun s => ((t &&& (255 - s) == 0) == ((List.range 8).all fun q => !t.testBit q || s.testBit q)) && (!(t &&& (255 - s) == 0) || decide (t ≤ s))) = true := by decide +kernel
theorem sub_iff {s t : Nat} (ht : t < 256) (hs : s < 256) : (andNotK .u8 (t : Int) (s : Int) = 0 ↔ ∀ q, q < 8 → t.testBit q = true → s.testBit q = true) ∧ (andNotK .u8 (t : Int) (s : Int) = 0 → t ≤ s) := by
  have h := (List.all_eq_true.1 ((List.all_eq_true.1 sub_all) t (by simpa using ht))) s (by simpa using hs)
  rw [Bool.and_eq_true, beq_iff_eq, Bool.eq_iff_iff, List.all_eq_true] at h
  rw [andNot_byte ht hs]
  have h1 := h.1
  simp only [beq_iff_eq, List.mem_range, Bool.or_eq_true, Bool.not_eq_true'] at h1
  have e : (((t &&& (255 - s) : Nat) : Int) = 0) ↔ (t &&& (255 - s) = 0) := by omega
  rw [e]
  refine ⟨h1.trans ⟨fun k q hq hb => ?_, fun k q hq => ?_⟩, fun h0 => ?_⟩
  · rcases k q hq with k | k
    · rw [hb] at k; cases k
    · exact k
  · cases hb : t.testBit q with
    | false => exact .inl rfl
    | true => exact .inr (k q hq hb)
  · have h2 := h.2
    rw [h0] at h2
    simpa using h2
theorem Sets.nat {P : List Mo} {S : List Int} (h : Sets P S) {s : Int} (hs : s ∈ S) : ∃ k : Nat, k < 256 ∧ s = (k : Int) := by
  obtain ⟨a, _, e⟩ := (h.mem s).1 hs
  exact ⟨supN a, supN_lt a, e.symm⟩
end Go.Mach.Ytl
