/-
  Pruned copy of the text Se. By an AI agent.
-/
import Derived.Test.YtlbihaiejbpjoaaGreatZ10Sd
set_option linter.unusedSimpArgs false
set_option linter.unusedVariables false
set_option maxRecDepth 100000
namespace Go.Mach.Ytl
open Go.Mach
theorem irr_sub {n : Nat} {L P P' : List Mo} (hL : ∀ m ∈ L, Box n m) (h : Irr L P) (h' : Irr L P') : ∀ a ∈ P, a ∈ P' := by
  intro a ha
  have hb := h.good.box hL
  have hb' := h'.good.box hL
  have one : ∀ {P P' : List Mo}, Irr L P → Irr L P' → ∀ a ∈ P, ∃ b ∈ P', insB b a = true := by
    intro P P' h h' a ha
    have hb := h.good.box hL
    have hb' := h'.good.box hL
    have hd := dual_nn (hb a ha)
    have h1 : ¬ ∀ b ∈ P', inQ b (dualM a) := fun hall => by
      have := (h.sem _ hd).2 ((h'.sem _ hd).1 hall) a ha
      exact dual_not this
    obtain ⟨b, h2⟩ := Classical.not_forall.1 h1
    obtain ⟨h2, h3⟩ := Classical.not_imp.1 h2
    refine ⟨b, h2, ?_⟩
    apply Classical.byContradiction
    intro h4
    exact h3 (dual_in (hb' b h2) h4)
  obtain ⟨b, h2, h3⟩ := one h h' a ha
  obtain ⟨a', h4, h5⟩ := one h' h b h2
  have h6 := h.good.anti a ha a' h4 (insB_trans (hb' b h2).nn h5 h3)
  subst h6
  rw [insB_anti (hb a ha).nn (hb' b h2).nn h5 h3]
  exact h2
theorem irr_unique {n : Nat} {L P P' : List Mo} (hL : ∀ m ∈ L, Box n m) (h : Irr L P) (h' : Irr L P') : P = P' := h.desc.ext h'.desc fun m => ⟨irr_sub hL h h' m, irr_sub hL h' h m⟩
theorem asc_ext : ∀ (S S' : List Int), S.Pairwise (· < ·) → S'.Pairwise (· < ·) → (∀ x, x ∈ S ↔ x ∈ S') → S = S' := by
  intro S
  induction S with
  | nil => intro S' _ _ h; cases S' with
    | nil => rfl
    | cons a l => have := (h a).2 (by simp); cases this
  | cons a l ih =>
    intro S' hs hs' h
    cases S' with
    | nil => have := (h a).1 (by simp); cases this
    | cons b l' =>
      have c1 := List.pairwise_cons.1 hs
      have c2 := List.pairwise_cons.1 hs'
      have hab : a = b := by
        rcases List.mem_cons.1 ((h a).1 (by simp)) with e | e
        · exact e
        · rcases List.mem_cons.1 ((h b).2 (by simp)) with e2 | e2
          · exact e2.symm
          · have := c1.1 b e2; have := c2.1 a e; omega
      subst hab
      rw [ih l' c1.2 c2.2 fun x => ?_]
      constructor
      · intro hx
        rcases List.mem_cons.1 ((h x).1 (by simp [hx])) with e | e
        · have := c1.1 x hx; omega
        · exact e
      · intro hx
        rcases List.mem_cons.1 ((h x).2 (by simp [hx])) with e | e
        · have := c2.1 x hx; omega
        · exact e
theorem sets_unique {P : List Mo} {S S' : List Int} (h : Sets P S) (h' : Sets P S') : S = S' := asc_ext S S' h.asc h'.asc fun x => by rw [h.mem, h'.mem]
theorem filter_succ {α : Type} {p : α → Bool} {S : List α} {i : Nat} (hi : i < S.length) : (S.take (i + 1)).filter p = (S.take i).filter p ++ if p S[i] then [S[i]] else [] := by
  rw [List.take_succ_eq_append_getElem hi, List.filter_append]
  congr 1
  by_cases h : p S[i] = true
  · rw [List.filter_cons_of_pos h, if_pos h]; rfl
  · rw [List.filter_cons_of_neg h, if_neg h]; rfl
end Go.Mach.Ytl
