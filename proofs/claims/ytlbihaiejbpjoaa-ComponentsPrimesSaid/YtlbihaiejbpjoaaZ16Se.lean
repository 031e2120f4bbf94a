/-
  Pruned copy of the text Se. By an AI agent.
-/
import Derived.Test.YtlbihaiejbpjoaaZ16Sd
set_option linter.unusedSimpArgs false
set_option linter.unusedVariables false
set_option maxRecDepth 100000
namespace Go.Mach.Ytl
open Go.Mach
theorem asc_ext : ∀ (S S' : List Int), S.Pairwise (· < ·) → S'.Pairwise (· < ·) → (∀ x, x ∈ S ↔ x ∈ S') → S = S' := by
  intro S
  induction S with
  | nil => intro S' _ _ h; cases S' with
    | nil => rfl
    | cons a l => have := (h a).2 (by simp); cases this
  | cons a l ih =>
    intro S' hs hs' h
    cases S' with
    | nil => have := (h a).1 (by simp); cases this
    | cons b l' =>
      have c1 := List.pairwise_cons.1 hs
      have c2 := List.pairwise_cons.1 hs'
      have hab : a = b := by
        rcases List.mem_cons.1 ((h a).1 (by simp)) with e | e
        · exact e
        · rcases List.mem_cons.1 ((h b).2 (by simp)) with e2 | e2
          · exact e2.symm
          · have := c1.1 b e2; have := c2.1 a e; omega
      subst hab
      rw [ih l' c1.2 c2.2 fun x => ?_]
      constructor
      · intro hx
        rcases List.mem_cons.1 ((h x).1 (by simp [hx])) with e | e
        · have := c1.1 x hx; omega
        · exact e
      · intro hx
        rcases List.mem_cons.1 ((h x).2 (by simp [hx])) with e | e
        · have := c2.1 x hx; omega
        · exact e
def bitN (s : Nat) : Nat → Mo
  | 0 => Mo.zero
  | j + 1 => (bitN s j).setI j ((s / 2 ^ j % 2 : Nat) : Int)
def primeM (s : Nat) : Mo := bitN s 8
theorem bitN_get {s : Nat} : ∀ j, j ≤ 8 → ∀ q, (bitN s j).get q = if q < j then ((s / 2 ^ q % 2 : Nat) : Int) else 0
  | 0, _, q => by simp [bitN, zero_get]
  | j + 1, h, q => by
    have ih := bitN_get (s := s) j (by omega)
    rw [bitN, get_set (by omega)]
    by_cases hq : q = j
    · subst hq; rw [if_pos rfl, if_pos (by omega)]
    · rw [if_neg hq, ih q]
      by_cases h2 : q < j
      · rw [if_pos h2, if_pos (by omega)]
      · rw [if_neg h2, if_neg (by omega)]
theorem prime_get {s q : Nat} (h : q < 8) : (primeM s).get q = if s.testBit q then 1 else 0 := by
  rw [primeM, bitN_get 8 (Nat.le_refl _), if_pos h, Nat.testBit_eq_decide_div_mod_eq]
  have : s / 2 ^ q % 2 < 2 := Nat.mod_lt _ (by omega)
  by_cases h : s / 2 ^ q % 2 = 1
  · rw [h]; simp
  · have h0 : s / 2 ^ q % 2 = 0 := by omega
    rw [h0]; simp
theorem inQ_prime {s : Nat} {t : Mo} : inQ (primeM s) t ↔ ∃ q, q < 8 ∧ s.testBit q = true ∧ 1 ≤ t.get q := by
  constructor
  · rintro ⟨q, hq, h0, h1⟩
    rw [prime_get hq] at h0 h1
    by_cases hb : s.testBit q = true
    · rw [if_pos hb] at h1; exact ⟨q, hq, hb, h1⟩
    · rw [if_neg hb] at h0; omega
  · rintro ⟨q, hq, hb, h1⟩
    exact ⟨q, hq, by rw [prime_get hq, if_pos hb]; omega, by rw [prime_get hq, if_pos hb]; exact h1⟩
theorem Sets.nat {P : List Mo} {S : List Int} (h : Sets P S) {s : Int} (hs : s ∈ S) : ∃ k : Nat, k < 256 ∧ s = (k : Int) := by
  obtain ⟨a, _, e⟩ := (h.mem s).1 hs
  exact ⟨supN a, supN_lt a, e.symm⟩
theorem filter_at {α : Type} {p : α → Bool} {S : List α} {i : Nat} (hi : i < S.length) (hp : p S[i] = true) : (S.filter p)[((S.take i).filter p).length]? = some S[i] := by
  have e : S.filter p = (S.take i).filter p ++ S[i] :: (S.drop (i + 1)).filter p := by
    have h1 : S = S.take i ++ S[i] :: S.drop (i + 1) := by rw [← List.drop_eq_getElem_cons hi, List.take_append_drop]
    have h2 := congrArg (List.filter p) h1
    rw [List.filter_append, List.filter_cons_of_pos hp] at h2
    exact h2
  rw [e, List.getElem?_append_right (Nat.le_refl _), Nat.sub_self]; rfl
theorem filter_succ {α : Type} {p : α → Bool} {S : List α} {i : Nat} (hi : i < S.length) : (S.take (i + 1)).filter p = (S.take i).filter p ++ if p S[i] then [S[i]] else [] := by
  rw [List.take_succ_eq_append_getElem hi, List.filter_append]
  congr 1
  by_cases h : p S[i] = true
  · rw [List.filter_cons_of_pos h, if_pos h]; rfl
  · rw [List.filter_cons_of_neg h, if_neg h]; rfl
end Go.Mach.Ytl
