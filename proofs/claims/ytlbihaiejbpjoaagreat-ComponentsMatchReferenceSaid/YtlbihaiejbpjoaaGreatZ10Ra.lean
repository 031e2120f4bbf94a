/-
  Pruned copy of the text Ra. By an AI agent.
-/
import Derived.Test.YtlbihaiejbpjoaaGreatZ10Qd
set_option linter.unusedSimpArgs false
set_option linter.unusedVariables false
set_option maxRecDepth 100000
namespace Go.Mach.Ytl
open Go.Mach
def inQ (a t : Mo) : Prop := ∃ q, q < 8 ∧ 0 < a.get q ∧ a.get q ≤ t.get q
def insB (a b : Mo) : Bool := (List.range 8).all fun q => !(decide (0 < a.get q) && (decide (b.get q = 0) || decide (a.get q < b.get q)))
theorem insB_iff {a b : Mo} : insB a b = true ↔ ∀ q, q < 8 → 0 < a.get q → b.get q ≠ 0 ∧ b.get q ≤ a.get q := by
  unfold insB
  rw [List.all_eq_true]
  constructor
  · intro h q hq h0
    have := h q (List.mem_range.2 hq)
    simp only [Bool.not_eq_true', Bool.and_eq_false_imp, decide_eq_true_eq, Bool.or_eq_false_iff, decide_eq_false_iff_not] at this
    have := this h0
    exact ⟨this.1, by omega⟩
  · intro h q hq
    simp only [Bool.not_eq_true', Bool.and_eq_false_imp, decide_eq_true_eq, Bool.or_eq_false_iff, decide_eq_false_iff_not]
    intro h0
    have := h q (List.mem_range.1 hq) h0
    exact ⟨this.1, by omega⟩
theorem insB_refl {a : Mo} : insB a a = true := insB_iff.2 fun q _ h => ⟨by omega, Int.le_refl _⟩
theorem insB_trans {a b c : Mo} (hb : b.nn) (h : insB a b = true) (k : insB b c = true) : insB a c = true := insB_iff.2 fun q hq h0 => by
  have h1 := insB_iff.1 h q hq h0
  have := nn_get.1 hb q hq
  have h2 := insB_iff.1 k q hq (by omega)
  exact ⟨h2.1, by omega⟩
theorem insB_anti {a b : Mo} (ha : a.nn) (hb : b.nn) (h : insB a b = true) (k : insB b a = true) : a = b := Mo.ext' fun q hq => by
  have h1 := insB_iff.1 h q hq
  have h2 := insB_iff.1 k q hq
  have h3 := nn_get.1 ha q hq
  have h4 := nn_get.1 hb q hq
  by_cases ha0 : 0 < a.get q
  · have := h1 ha0; have := h2 (by omega); omega
  · by_cases hb0 : 0 < b.get q
    · have := h2 hb0; omega
    · omega
theorem inQ_mono {a b t : Mo} (hb : b.nn) (h : insB a b = true) (ht : inQ a t) : inQ b t := by
  obtain ⟨q, hq, h0, h1⟩ := ht
  have := insB_iff.1 h q hq h0
  have := nn_get.1 hb q hq
  exact ⟨q, hq, by omega, by omega⟩
def keepB (X : List Mo) (b : Mo) : Bool := !X.any fun c => !decide (b = c) && insB c b
theorem keepB_iff {X : List Mo} {b : Mo} : keepB X b = true ↔ ∀ c ∈ X, insB c b = true → b = c := by
  unfold keepB
  rw [Bool.not_eq_true', List.any_eq_false]
  constructor
  · intro h c hc hi
    have := h c hc
    simp only [Bool.and_eq_true, Bool.not_eq_true', decide_eq_false_iff_not, not_and] at this
    exact Classical.byContradiction fun hne => this hne hi
  · intro h c hc
    simp only [Bool.and_eq_true, Bool.not_eq_true', decide_eq_false_iff_not, not_and]
    exact fun hne hi => hne (h c hc hi)
def insS (X : List Mo) (out : List Mo) (b : Mo) : List Mo := if keepB X b = true ∧ b ∉ out then out ++ [b] else out
def insF (X : List Mo) : List Mo := X.foldl (insS X) []
theorem insS_fold {X : List Mo} : ∀ (l out : List Mo), out.Nodup → (l.foldl (insS X) out).Nodup ∧ ∀ x, x ∈ l.foldl (insS X) out ↔ x ∈ out ∨ x ∈ l ∧ keepB X x = true
  | [], out, h => ⟨h, by simp⟩
  | b :: l, out, h => by
    simp only [List.foldl_cons]
    unfold insS
    by_cases hb : keepB X b = true ∧ b ∉ out
    · rw [if_pos hb]
      have := insS_fold (X := X) l (out ++ [b]) (by
        rw [List.nodup_append]
        exact ⟨h, by simp, fun x hx y hy => by rw [List.mem_singleton] at hy; subst hy; exact fun e => hb.2 (e ▸ hx)⟩)
      refine ⟨this.1, fun x => ?_⟩
      show x ∈ l.foldl (insS X) (out ++ [b]) ↔ _
      rw [this.2 x, List.mem_append, List.mem_singleton, List.mem_cons]
      constructor
      · rintro ((h | rfl) | ⟨h1, h2⟩)
        · exact .inl h
        · exact .inr ⟨.inl rfl, hb.1⟩
        · exact .inr ⟨.inr h1, h2⟩
      · rintro (h | ⟨rfl | h1, h2⟩)
        · exact .inl (.inl h)
        · exact .inl (.inr rfl)
        · exact .inr ⟨h1, h2⟩
    · rw [if_neg hb]
      have := insS_fold (X := X) l out h
      refine ⟨this.1, fun x => ?_⟩
      show x ∈ l.foldl (insS X) out ↔ _
      rw [this.2 x, List.mem_cons]
      constructor
      · rintro (h | ⟨h1, h2⟩)
        · exact .inl h
        · exact .inr ⟨.inr h1, h2⟩
      · rintro (h | ⟨rfl | h1, h2⟩)
        · exact .inl h
        · exact .inl (Classical.byContradiction fun hx => hb ⟨h2, hx⟩)
        · exact .inr ⟨h1, h2⟩
theorem insF_mem {X : List Mo} {x : Mo} : x ∈ insF X ↔ x ∈ X ∧ keepB X x = true := by
  rw [insF, (insS_fold X [] .nil).2 x]; simp
theorem insF_nodup {X : List Mo} : (insF X).Nodup := (insS_fold X [] .nil).1
theorem insF_sub {X : List Mo} {x : Mo} (h : x ∈ insF X) : x ∈ X := (insF_mem.1 h).1
theorem insF_anti {X : List Mo} {b c : Mo} (hb : b ∈ insF X) (hc : c ∈ insF X) (h : insB c b = true) : b = c := keepB_iff.1 (insF_mem.1 hb).2 c (insF_sub hc) h
theorem keep_below {X : List Mo} (hX : ∀ x ∈ X, x.nn) : ∀ (n : Nat) (Y : List Mo) (b : Mo), Y.length ≤ n → (∀ y, y ∈ Y → y ∈ X) → (∀ c ∈ X, c ≠ b → insB c b = true → c ∈ Y) → b ∈ X → ∃ c ∈ insF X, insB c b = true := by
  intro n
  induction n with
  | zero =>
    intro Y b hY hsub hcov hb
    have hYn : Y = [] := List.length_eq_zero_iff.1 (by omega)
    subst hYn
    refine ⟨b, insF_mem.2 ⟨hb, keepB_iff.2 fun c hc hi => ?_⟩, insB_refl⟩
    exact Classical.byContradiction fun hne => nomatch hcov c hc (fun e => hne e.symm) hi
  | succ n ih =>
    intro Y b hY hsub hcov hb
    by_cases hk : keepB X b = true
    · exact ⟨b, insF_mem.2 ⟨hb, hk⟩, insB_refl⟩
    · rw [keepB_iff] at hk
      obtain ⟨c, hk⟩ := Classical.not_forall.1 hk
      obtain ⟨hc, hk⟩ := Classical.not_imp.1 hk
      obtain ⟨hi, hne⟩ := Classical.not_imp.1 hk
      have hcY : c ∈ Y := hcov c hc (fun e => hne e.symm) hi
      have hlen : (Y.filter fun y => decide (y ≠ c)).length < Y.length := by
        have := List.length_filter_lt_length_iff_exists (p := fun y => decide (y ≠ c)) (l := Y)
        exact this.2 ⟨c, hcY, by simp⟩
      obtain ⟨d, hd, hdi⟩ := ih (Y.filter fun y => decide (y ≠ c)) c (by omega) (fun y hy => hsub y (List.mem_filter.1 hy).1) (fun d hd hdc hdi => by
        refine List.mem_filter.2 ⟨hcov d hd (fun e => ?_) (insB_trans (hX c hc) hdi hi), by simp [hdc]⟩
        subst e
        exact hne (insB_anti (hX d hd) (hX c hc) hdi hi)) hc
      exact ⟨d, hd, insB_trans (hX c hc) hdi hi⟩
theorem insF_below {X : List Mo} (hX : ∀ x ∈ X, x.nn) {b : Mo} (hb : b ∈ X) : ∃ c ∈ insF X, insB c b = true :=
  keep_below hX X.length X b (Nat.le_refl _) (fun _ h => h) (fun c hc _ _ => hc) hb
theorem insF_sem {X : List Mo} (hX : ∀ x ∈ X, x.nn) {t : Mo} : (∀ b ∈ insF X, inQ b t) ↔ ∀ b ∈ X, inQ b t := by
  constructor
  · intro h b hb
    obtain ⟨c, hc, hi⟩ := insF_below hX hb
    exact inQ_mono (hX b hb) hi (h c hc)
  · exact fun h b hb => h b (insF_sub hb)
theorem insF_ne {X : List Mo} (hX : ∀ x ∈ X, x.nn) (hne : X ≠ []) : insF X ≠ [] := by
  obtain ⟨b, hb⟩ := List.exists_mem_of_ne_nil X hne
  obtain ⟨c, hc, _⟩ := insF_below hX hb
  exact List.ne_nil_of_mem hc
def powL (a : Mo) : List Mo := ((List.range 8).filter fun q => decide (0 < a.get q)).map fun q => Mo.zero.setI q (a.get q)
theorem powL_any {a m : Mo} (hm : m.nn) : ((powL a).any fun p => dvd p m) = true ↔ inQ a m := by
  rw [List.any_eq_true]
  constructor
  · rintro ⟨p, hp, hd⟩
    simp only [powL, List.mem_map, List.mem_filter, List.mem_range, decide_eq_true_eq] at hp
    obtain ⟨q, ⟨hq, h0⟩, rfl⟩ := hp
    rw [dvd_iff, le_get] at hd
    have := hd q hq
    rw [get_set hq, if_pos rfl] at this
    exact ⟨q, hq, h0, this⟩
  · rintro ⟨q, hq, h0, h1⟩
    refine ⟨Mo.zero.setI q (a.get q), ?_, ?_⟩
    · simp only [powL, List.mem_map, List.mem_filter, List.mem_range, decide_eq_true_eq]
      exact ⟨q, ⟨hq, h0⟩, rfl⟩
    · rw [dvd_iff, le_get]
      intro j hj
      rw [get_set hq]
      split
      · rename_i e; rw [e]; exact h1
      · rw [zero_get]; exact nn_get.1 hm j hj
def varsF (a m : Mo) (next : List Mo) (qs : List Nat) : List Mo := qs.foldl (fun nx q => if 0 < m.get q then insF (nx ++ [a.setI q (m.get q)]) else nx) next
def partF (m : Mo) (next : List Mo) (a : Mo) : List Mo := if (powL a).any (fun p => dvd p m) = true then insF (next ++ [a]) else varsF a m next (List.range 8)
def stepF (parts : List Mo) (m : Mo) : List Mo := parts.foldl (partF m) []
def irrF (gens : List Mo) : List Mo := gens.foldl stepF [Mo.zero]
structure Good (L : List Mo) (r : List Mo) : Prop where
  nodup : r.Nodup
  exps : ∀ b ∈ r, ∀ q, b.get q = 0 ∨ ∃ m ∈ L, 0 < m.get q ∧ b.get q = m.get q
  anti : ∀ b ∈ r, ∀ c ∈ r, insB c b = true → b = c
theorem Good.nn {L r : List Mo} (h : Good L r) : ∀ b ∈ r, b.nn := fun b hb => nn_get.2 fun q _ => by
  rcases h.exps b hb q with h | ⟨m, _, h1, h2⟩ <;> omega
theorem Good.nil {L : List Mo} : Good L [] := ⟨.nil, fun _ h => (nomatch h), fun _ h => (nomatch h)⟩
theorem Good.ins {L r : List Mo} {a : Mo} (h : Good L r) (ha : ∀ q, a.get q = 0 ∨ ∃ m ∈ L, 0 < m.get q ∧ a.get q = m.get q) : Good L (insF (r ++ [a])) := by
  refine ⟨insF_nodup, fun b hb => ?_, fun b hb c hc => insF_anti hb hc⟩
  rcases List.mem_append.1 (insF_sub hb) with h1 | h1
  · exact h.exps b h1
  · rw [List.mem_singleton] at h1; subst h1; exact ha
theorem app_nn {L r : List Mo} {a : Mo} (h : Good L r) (ha : ∀ q, a.get q = 0 ∨ ∃ m ∈ L, 0 < m.get q ∧ a.get q = m.get q) : ∀ x ∈ r ++ [a], x.nn := fun x hx => by
  rcases List.mem_append.1 hx with h1 | h1
  · exact h.nn x h1
  · rw [List.mem_singleton] at h1; subst h1
    exact nn_get.2 fun q _ => by rcases ha q with h | ⟨m, _, h1, h2⟩ <;> omega
theorem set_exps {L : List Mo} {a m : Mo} {q : Nat} (hq : q < 8) (hm : m ∈ L) (h0 : 0 < m.get q) (ha : ∀ q, a.get q = 0 ∨ ∃ m ∈ L, 0 < m.get q ∧ a.get q = m.get q) : ∀ j, (a.setI q (m.get q)).get j = 0 ∨ ∃ m' ∈ L, 0 < m'.get j ∧ (a.setI q (m.get q)).get j = m'.get j := fun j => by
  rw [get_set hq]
  split
  · rename_i e; subst e; exact .inr ⟨m, hm, h0, rfl⟩
  · exact ha j
theorem varsF_good {L : List Mo} {a m : Mo} (hm : m ∈ L) (ha : ∀ q, a.get q = 0 ∨ ∃ m ∈ L, 0 < m.get q ∧ a.get q = m.get q) : ∀ (qs : List Nat) (next : List Mo), (∀ q ∈ qs, q < 8) → Good L next → Good L (varsF a m next qs) ∧ ∀ t, (∀ b ∈ varsF a m next qs, inQ b t) ↔ (∀ b ∈ next, inQ b t) ∧ ∀ q ∈ qs, 0 < m.get q → inQ (a.setI q (m.get q)) t
  | [], next, _, h => ⟨h, fun t => by simp [varsF]⟩
  | q :: qs, next, hq, h => by
    have hq8 : q < 8 := hq q List.mem_cons_self
    by_cases h0 : 0 < m.get q
    · have hs := set_exps hq8 hm h0 ha
      have ih := varsF_good hm ha qs (insF (next ++ [a.setI q (m.get q)])) (fun q h => hq q (List.mem_cons_of_mem _ h)) (h.ins hs)
      have e : varsF a m next (q :: qs) = varsF a m (insF (next ++ [a.setI q (m.get q)])) qs := by simp only [varsF, List.foldl_cons, if_pos h0]
      rw [e]
      refine ⟨ih.1, fun t => ?_⟩
      rw [ih.2 t, insF_sem (app_nn h hs)]
      constructor
      · rintro ⟨h1, h2⟩
        refine ⟨fun b hb => h1 b (List.mem_append_left _ hb), fun j hj hj0 => ?_⟩
        rcases List.mem_cons.1 hj with rfl | hj
        · exact h1 _ (by simp)
        · exact h2 j hj hj0
      · rintro ⟨h1, h2⟩
        refine ⟨fun b hb => ?_, fun j hj hj0 => h2 j (List.mem_cons_of_mem _ hj) hj0⟩
        rcases List.mem_append.1 hb with hb | hb
        · exact h1 b hb
        · rw [List.mem_singleton] at hb; subst hb; exact h2 q List.mem_cons_self h0
    · have ih := varsF_good hm ha qs next (fun q h => hq q (List.mem_cons_of_mem _ h)) h
      have e : varsF a m next (q :: qs) = varsF a m next qs := by simp only [varsF, List.foldl_cons, if_neg h0]
      rw [e]
      refine ⟨ih.1, fun t => ?_⟩
      rw [ih.2 t]
      constructor
      · rintro ⟨h1, h2⟩
        refine ⟨h1, fun j hj hj0 => ?_⟩
        rcases List.mem_cons.1 hj with rfl | hj
        · exact absurd hj0 h0
        · exact h2 j hj hj0
      · rintro ⟨h1, h2⟩
        exact ⟨h1, fun j hj hj0 => h2 j (List.mem_cons_of_mem _ hj) hj0⟩
theorem vars_sem {a m t : Mo} (hm : m.nn) (ht : t.nn) (hn : ¬ inQ a m) : (∀ q ∈ List.range 8, 0 < m.get q → inQ (a.setI q (m.get q)) t) ↔ inQ a t ∨ Mo.le m t := by
  constructor
  · intro h
    by_cases ha : inQ a t
    · exact .inl ha
    · refine .inr (le_get.2 fun q hq => ?_)
      by_cases h0 : 0 < m.get q
      · obtain ⟨j, hj, h1, h2⟩ := h q (List.mem_range.2 hq) h0
        rw [get_set hq] at h1 h2
        by_cases hjq : j = q
        · subst hjq; rwa [if_pos rfl] at h2
        · rw [if_neg hjq] at h1 h2
          exact absurd ⟨j, hj, h1, h2⟩ ha
      · have := nn_get.1 ht q hq; omega
  · rintro (⟨j, hj, h1, h2⟩ | h) q hq h0
    · have hq := List.mem_range.1 hq
      by_cases hjq : j = q
      · subst hjq
        have : ¬ a.get j ≤ m.get j := fun h3 => hn ⟨j, hj, h1, h3⟩
        exact ⟨j, hj, by rw [get_set hj, if_pos rfl]; exact h0, by rw [get_set hj, if_pos rfl]; omega⟩
      · exact ⟨j, hj, by rw [get_set hq, if_neg hjq]; exact h1, by rw [get_set hq, if_neg hjq]; exact h2⟩
    · have hq := List.mem_range.1 hq
      exact ⟨q, hq, by rw [get_set hq, if_pos rfl]; exact h0, by rw [get_set hq, if_pos rfl]; exact le_get.1 h q hq⟩
theorem le_inQ {a m t : Mo} (h : inQ a m) (hl : Mo.le m t) : inQ a t := by
  obtain ⟨q, hq, h0, h1⟩ := h
  exact ⟨q, hq, h0, Int.le_trans h1 (le_get.1 hl q hq)⟩
theorem partF_good {L : List Mo} {m : Mo} (hm : m ∈ L) (hmn : m.nn) {a : Mo} (ha : ∀ q, a.get q = 0 ∨ ∃ m ∈ L, 0 < m.get q ∧ a.get q = m.get q) {next : List Mo} (h : Good L next) : Good L (partF m next a) ∧ ∀ t, t.nn → ((∀ b ∈ partF m next a, inQ b t) ↔ (∀ b ∈ next, inQ b t) ∧ (inQ a t ∨ Mo.le m t)) := by
  unfold partF
  by_cases hc : (powL a).any (fun p => dvd p m) = true
  · rw [if_pos hc]
    refine ⟨h.ins ha, fun t ht => ?_⟩
    rw [insF_sem (app_nn h ha)]
    have hq := (powL_any hmn).1 hc
    constructor
    · intro h1
      exact ⟨fun b hb => h1 b (List.mem_append_left _ hb), .inl (h1 a (by simp))⟩
    · rintro ⟨h1, h2⟩ b hb
      rcases List.mem_append.1 hb with hb | hb
      · exact h1 b hb
      · rw [List.mem_singleton] at hb; subst hb
        rcases h2 with h2 | h2
        · exact h2
        · exact le_inQ hq h2
  · rw [if_neg hc]
    have := varsF_good hm ha (List.range 8) next (fun q h => List.mem_range.1 h) h
    refine ⟨this.1, fun t ht => ?_⟩
    rw [this.2 t, vars_sem hmn ht fun hq => hc ((powL_any hmn).2 hq)]
theorem parts_good {L : List Mo} {m : Mo} (hm : m ∈ L) (hmn : m.nn) : ∀ (parts next : List Mo), (∀ a ∈ parts, ∀ q, a.get q = 0 ∨ ∃ m ∈ L, 0 < m.get q ∧ a.get q = m.get q) → Good L next → Good L (parts.foldl (partF m) next) ∧ ∀ t, t.nn → ((∀ b ∈ parts.foldl (partF m) next, inQ b t) ↔ (∀ b ∈ next, inQ b t) ∧ ∀ a ∈ parts, inQ a t ∨ Mo.le m t)
  | [], next, _, h => ⟨h, fun t _ => by simp⟩
  | a :: parts, next, hp, h => by
    simp only [List.foldl_cons]
    have h1 := partF_good hm hmn (hp a List.mem_cons_self) h
    have ih := parts_good hm hmn parts (partF m next a) (fun b hb => hp b (List.mem_cons_of_mem _ hb)) h1.1
    refine ⟨ih.1, fun t ht => ?_⟩
    rw [ih.2 t ht, h1.2 t ht]
    constructor
    · rintro ⟨⟨k1, k2⟩, k3⟩
      refine ⟨k1, fun b hb => ?_⟩
      rcases List.mem_cons.1 hb with rfl | hb
      · exact k2
      · exact k3 b hb
    · rintro ⟨k1, k2⟩
      exact ⟨⟨k1, k2 a List.mem_cons_self⟩, fun b hb => k2 b (List.mem_cons_of_mem _ hb)⟩
theorem stepF_good {L : List Mo} {m : Mo} (hm : m ∈ L) (hmn : m.nn) {parts : List Mo} (h : Good L parts) : Good L (stepF parts m) ∧ ∀ t, t.nn → ((∀ b ∈ stepF parts m, inQ b t) ↔ (∀ b ∈ parts, inQ b t) ∨ Mo.le m t) := by
  have := parts_good hm hmn parts [] h.exps .nil
  refine ⟨this.1, fun t ht => ?_⟩
  show (∀ b ∈ parts.foldl (partF m) [], inQ b t) ↔ _
  rw [this.2 t ht]
  constructor
  · rintro ⟨_, k⟩
    by_cases hl : Mo.le m t
    · exact .inr hl
    · exact .inl fun b hb => (k b hb).resolve_right hl
  · rintro (k | k)
    · exact ⟨fun _ h => (nomatch h), fun b hb => .inl (k b hb)⟩
    · exact ⟨fun _ h => (nomatch h), fun b hb => .inr k⟩
theorem fold_good {L : List Mo} : ∀ (gens parts : List Mo), (∀ m ∈ gens, m ∈ L ∧ m.nn) → Good L parts → Good L (gens.foldl stepF parts) ∧ ∀ t, t.nn → ((∀ b ∈ gens.foldl stepF parts, inQ b t) ↔ (∀ b ∈ parts, inQ b t) ∨ ∃ m ∈ gens, Mo.le m t)
  | [], parts, _, h => ⟨h, fun t _ => by simp⟩
  | m :: gens, parts, hg, h => by
    simp only [List.foldl_cons]
    have hm := hg m List.mem_cons_self
    have h1 := stepF_good hm.1 hm.2 h
    have ih := fold_good gens (stepF parts m) (fun b hb => hg b (List.mem_cons_of_mem _ hb)) h1.1
    refine ⟨ih.1, fun t ht => ?_⟩
    rw [ih.2 t ht, h1.2 t ht]
    constructor
    · rintro ((k | k) | ⟨m', k1, k2⟩)
      · exact .inl k
      · exact .inr ⟨m, List.mem_cons_self, k⟩
      · exact .inr ⟨m', List.mem_cons_of_mem _ k1, k2⟩
    · rintro (k | ⟨m', k1, k2⟩)
      · exact .inl (.inl k)
      · rcases List.mem_cons.1 k1 with rfl | k1
        · exact .inl (.inr k2)
        · exact .inr ⟨m', k1, k2⟩
theorem Good.one {L : List Mo} : Good L [Mo.zero] := ⟨by simp, fun b hb q => by rw [List.mem_singleton] at hb; subst hb; exact .inl (zero_get q), fun b hb c hc _ => by rw [List.mem_singleton] at hb hc; rw [hb, hc]⟩
theorem irrF_good {L gens : List Mo} (hg : ∀ m ∈ gens, m ∈ L ∧ m.nn) : Good L (irrF gens) ∧ ∀ t, t.nn → ((∀ b ∈ irrF gens, inQ b t) ↔ ∃ m ∈ gens, Mo.le m t) := by
  have := fold_good gens [Mo.zero] hg Good.one
  refine ⟨this.1, fun t ht => ?_⟩
  show (∀ b ∈ gens.foldl stepF [Mo.zero], inQ b t) ↔ _
  rw [this.2 t ht]
  constructor
  · rintro (k | k)
    · obtain ⟨q, _, h0, _⟩ := k Mo.zero (by simp)
      rw [zero_get] at h0; omega
    · exact k
  · exact .inr
end Go.Mach.Ytl
set_option linter.unusedSimpArgs false
set_option linter.unusedVariables false
set_option maxRecDepth 100000
namespace Go.Mach.Ytl
open Go.Mach
def supB (b0 b1 b2 b3 b4 b5 b6 b7 : Bool) : Nat := b0.toNat + 2 * b1.toNat + 4 * b2.toNat + 8 * b3.toNat + 16 * b4.toNat + 32 * b5.toNat + 64 * b6.toNat + 128 * b7.toNat
def selB (b0 b1 b2 b3 b4 b5 b6 b7 : Bool) (q : Nat) : Bool := match q with
  | 0 => b0 | 1 => b1 | 2 => b2 | 3 => b3 | 4 => b4 | 5 => b5 | 6 => b6 | 7 => b7 | _ => false
def supN (m : Mo) : Nat := supB (decide (0 < m.x0)) (decide (0 < m.x1)) (decide (0 < m.x2)) (decide (0 < m.x3)) (decide (0 < m.x4)) (decide (0 < m.x5)) (decide (0 < m.x6)) (decide (0 < m.x7))
theorem sel_get (m : Mo) {q : Nat} (hq : q < 8) : selB (decide (0 < m.x0)) (decide (0 < m.x1)) (decide (0 < m.x2)) (decide (0 < m.x3)) (decide (0 < m.x4)) (decide (0 < m.x5)) (decide (0 < m.x6)) (decide (0 < m.x7)) q = decide (0 < m.get q) := by
  match q, hq with
  | 0, _ | 1, _ | 2, _ | 3, _ | 4, _ | 5, _ | 6, _ | 7, _ => rfl
theorem supB_all : ∀ b0 b1 b2 b3 b4 b5 b6 b7 : Bool, stA' (b7 = true) 128 (stA' (b6 = true) 64 (stA' (b5 = true) 32 (stA' (b4 = true) 16 (stA' (b3 = true) 8 (stA' (b2 = true) 4 (stA' (b1 = true) 2 (stA' (b0 = true) 1 (0 : Int)))))))) = (supB b0 b1 b2 b3 b4 b5 b6 b7 : Nat) := by decide +kernel
theorem sup_nat (m : Mo) : m.sup' = (supN m : Nat) := by
  rw [supN, ← supB_all]
  unfold Mo.sup'
  simp only [stA']
  simp only [decide_eq_true_eq]
theorem supB_lt : ∀ b0 b1 b2 b3 b4 b5 b6 b7 : Bool, supB b0 b1 b2 b3 b4 b5 b6 b7 < 256 := by decide +kernel
theorem supN_lt (m : Mo) : supN m < 256 := supB_lt _ _ _ _ _ _ _ _
theorem supB_bit : ∀ b0 b1 b2 b3 b4 b5 b6 b7 : Bool, ∀ q, q < 8 → (supB b0 b1 b2 b3 b4 b5 b6 b7).testBit q = selB b0 b1 b2 b3 b4 b5 b6 b7 q := by decide +kernel
theorem supN_bit (m : Mo) {q : Nat} (hq : q < 8) : (supN m).testBit q = decide (0 < m.get q) := by rw [← sel_get m hq]; exact supB_bit _ _ _ _ _ _ _ _ q hq
abbrev len8 (n : Nat) : Nat := Sort.bitsLen n
theorem lenB_all : ∀ b0 b1 b2 b3 b4 b5 b6 b7 : Bool, ∀ n, n < 9 → (len8 (supB b0 b1 b2 b3 b4 b5 b6 b7) ≤ n ↔ ∀ q, q < 8 → n ≤ q → selB b0 b1 b2 b3 b4 b5 b6 b7 q = false) := by decide +kernel
theorem len_sup {m : Mo} {n : Nat} (hn : n < 9) : len8 (supN m) ≤ n ↔ ∀ q, q < 8 → n ≤ q → m.get q ≤ 0 := by
  have h := lenB_all (decide (0 < m.x0)) (decide (0 < m.x1)) (decide (0 < m.x2)) (decide (0 < m.x3)) (decide (0 < m.x4)) (decide (0 < m.x5)) (decide (0 < m.x6)) (decide (0 < m.x7)) n hn
  rw [supN, h]
  constructor
  · intro h q h1 h2
    have := h q h1 h2
    rw [sel_get m h1, decide_eq_false_iff_not] at this
    omega
  · intro h q h1 h2
    rw [sel_get m h1, decide_eq_false_iff_not]
    have := h q h1 h2
    omega
section
variable {s : List Jtm} {k : KF} {Q : AV → Heap → Prop}
theorem call_43' {a : Mo} {H : Heap} : callI tab 26 [mono a] H = some (.int .u8 (supN a : Nat), H) := by
  rw [← sup_nat, sup_eq]; exact callI_of (call_43 (n := 0))
theorem call_44' {a : Mo} {H : Heap} : callI tab 41 [mono a] H = some (.int .u8 (supN a : Nat), H) := by
  rw [← sup_nat]; exact callI_of (call_44 (n := 0))
theorem res_eq {x : R} {e0 : AV} {H : Heap} (h : Res x fun e H' => e = e0 ∧ H' = H) : x = some (e0, H) := by
  obtain ⟨e, H', h, rfl, rfl⟩ := h
  exact h
theorem call_66 {n : Nat} (hn : n < 256) {H : Heap} : callI tab 25 [.int .u8 n] H = some (.int .i64 (len8 n : Nat), H) := by
  have h8 := bitsLen_le8 hn
  refine callI_enter tab_66 (by simp [AF66]) (.inr (by simp)) ?_
  have e : ((Sort.bitsLen n : Nat) : Int) % 256 = (Sort.bitsLen n : Nat) := by omega
  simp -implicitDefEqProofs (disch := first | omega | with_unfolding_all exact eqR (Eq.refl _)) [nums, -getElem!_pos, -Int.natCast_add, -Int.natCast_mul, -Int.natCast_ediv, AF66, lenTab_eq, lenTab_get, hn, e]
def idxV (agg : Bool) (n e : Nat) (x i : AV) : Option AV := match x, i with
  | .agg cs, .int _ i => if 0 ≤ i ∧ i < n then part agg e cs (i.toNat * e) else none
  | _, _ => none
theorem pureA_idx {f : AOpd → AV} {H : Heap} {agg : Bool} {n e : Nat} {x i : AOpd} : pureA f H (.idx agg n e x i) = idxV agg n e (f x) (f i) := rfl
theorem idxV_mono {m : Mo} {k : IntKind} {q : Nat} (hq : q < 8) : idxV false 8 1 (mono m) (.int k (q : Nat)) = some (.int .i64 (m.get q)) := by
  simp only [idxV, mono]
  rw [if_pos (by omega), part_false]
  simpa using get_cells (m := m) hq
attribute [local simp ↓ high] pureA_idx
theorem guardI_u {call : CallFn} {w : Bool} {d : Option Nat} {op : AOp} {b : Bool} {l : List AOper} {σ : Sig} {H : Heap} : guardI call undefA w d op b l s k σ H = oi call l s k (putS σ d undefA) H := rfl
attribute [local simp] guardI_u
theorem l98_2 {a c : Mo} {b : Nat} {H0 H : Heap} (hob : H.obj b = .cells c.cells none) : ∀ (m j : Nat) (σ : Sig), 8 - j = m → j ≤ 8 → σ 3 = .ptr b 0 → σ 7 = mono a → σ 8 = .int .i64 (j : Nat) →
    Res (some (wrapA H0 (.bool (((List.range 8).drop j).all fun q => !(decide (0 < a.get q) && (decide (c.get q = 0) || decide (a.get q < c.get q))))) H)) Q →
    Res (li (callI tab) L98_2 [.inBlock 0, .code S98_3] (fink [.tmp 4] true H0) σ H) Q := by
  intro m
  induction m with
  | zero =>
    intro j σ hm hj h3 h7 h8 hQ
    have : j = 8 := by omega
    subst this
    obtain ⟨il, hil⟩ : ∃ x, x = Jtm.inLoop L98_2 := ⟨_, rfl⟩; rw [li_eq' il hil]
    simp -implicitDefEqProofs (disch := first | omega | with_unfolding_all exact eqR (Eq.refl _)) [nums, -getElem!_pos, -Int.natCast_add, -Int.natCast_mul, -Int.natCast_ediv, L98_2, S98_1, h3, h7, h8]
    subst hil
    try simp -implicitDefEqProofs (disch := first | omega | with_unfolding_all exact eqR (Eq.refl _)) [nums, -getElem!_pos, -Int.natCast_add, -Int.natCast_mul, -Int.natCast_ediv, S98_3]
    exact hQ
  | succ m ih =>
    intro j σ hm hj h3 h7 h8 hQ
    have hj8 : j < 8 := by omega
    have c8 : ((j : Nat) : Int) < 8 := by omega
    rw [List.drop_eq_getElem_cons (by simp; omega), List.getElem_range, List.all_cons] at hQ
    by_cases c1 : 0 < a.get j
    · by_cases c2 : c.get j = 0
      · rw [decide_eq_true c1, decide_eq_true c2] at hQ
        obtain ⟨il, hil⟩ : ∃ x, x = Jtm.inLoop L98_2 := ⟨_, rfl⟩; rw [li_eq' il hil]
        simp -implicitDefEqProofs (disch := first | omega | with_unfolding_all exact eqR (Eq.refl _)) [nums, -getElem!_pos, -Int.natCast_add, -Int.natCast_mul, -Int.natCast_ediv, L98_2, S98_1, h3, h7, h8, c8, iaddr_arr, hob, loadI, idxV_mono, c1, c2]
        subst hil
        try simp -implicitDefEqProofs (disch := first | omega | with_unfolding_all exact eqR (Eq.refl _)) [nums, -getElem!_pos, -Int.natCast_add, -Int.natCast_mul, -Int.natCast_ediv]
        exact hQ
      · by_cases c3 : a.get j < c.get j
        · rw [decide_eq_true c1, decide_eq_false c2, decide_eq_true c3] at hQ
          obtain ⟨il, hil⟩ : ∃ x, x = Jtm.inLoop L98_2 := ⟨_, rfl⟩; rw [li_eq' il hil]
          simp -implicitDefEqProofs (disch := first | omega | with_unfolding_all exact eqR (Eq.refl _)) [nums, -getElem!_pos, -Int.natCast_add, -Int.natCast_mul, -Int.natCast_ediv, L98_2, S98_1, h3, h7, h8, c8, iaddr_arr, hob, loadI, idxV_mono, c1, c2, c3]
          subst hil
          try simp -implicitDefEqProofs (disch := first | omega | with_unfolding_all exact eqR (Eq.refl _)) [nums, -getElem!_pos, -Int.natCast_add, -Int.natCast_mul, -Int.natCast_ediv]
          exact hQ
        · rw [decide_eq_true c1, decide_eq_false c2, decide_eq_false c3] at hQ
          obtain ⟨il, hil⟩ : ∃ x, x = Jtm.inLoop L98_2 := ⟨_, rfl⟩; rw [li_eq' il hil]
          simp -implicitDefEqProofs (disch := first | omega | with_unfolding_all exact eqR (Eq.refl _)) [nums, -getElem!_pos, -Int.natCast_add, -Int.natCast_mul, -Int.natCast_ediv, L98_2, S98_1, S98_0, h3, h7, h8, c8, iaddr_arr, hob, loadI, idxV_mono, c1, c2, c3]
          subst hil
          try simp -implicitDefEqProofs (disch := first | omega | with_unfolding_all exact eqR (Eq.refl _)) [nums, -getElem!_pos, -Int.natCast_add, -Int.natCast_mul, -Int.natCast_ediv]
          refine ih (j + 1) _ (by omega) (by omega) ?_ ?_ ?_ (by simpa using hQ)
          all_goals simp [h3, h7, h8]
    · rw [decide_eq_false c1] at hQ
      obtain ⟨il, hil⟩ : ∃ x, x = Jtm.inLoop L98_2 := ⟨_, rfl⟩; rw [li_eq' il hil]
      simp -implicitDefEqProofs (disch := first | omega | with_unfolding_all exact eqR (Eq.refl _)) [nums, -getElem!_pos, -Int.natCast_add, -Int.natCast_mul, -Int.natCast_ediv, L98_2, S98_1, S98_0, h3, h7, h8, c8, iaddr_arr, hob, loadI, idxV_mono, c1]
      subst hil
      try simp -implicitDefEqProofs (disch := first | omega | with_unfolding_all exact eqR (Eq.refl _)) [nums, -getElem!_pos, -Int.natCast_add, -Int.natCast_mul, -Int.natCast_ediv]
      refine ih (j + 1) _ (by omega) (by omega) ?_ ?_ ?_ (by simpa using hQ)
      all_goals simp [h3, h7, h8]
theorem call_98 {a c : Mo} {H : Heap} : callI tab 56 [mono a, mono c] H = some (.bool (insB a c), H) := by
  refine res_eq (.hide fun Q hQ => .enter tab_98 (by simp [AF98]) (.inr (by simp)) ?_)
  have hne : ¬ H.next = H.next + 1 := by omega
  simp -implicitDefEqProofs (disch := first | omega | with_unfolding_all exact eqR (Eq.refl _)) [nums, -getElem!_pos, -Int.natCast_add, -Int.natCast_mul, -Int.natCast_ediv, AF98, ldM, hne]
  refine l98_2 (a := a) (c := c) (b := H.next + 1) ?_ _ 0 _ rfl (by omega) ?_ ?_ ?_ ?_
  any_goals (first | (simp; done) | skip)
  rw [List.drop_zero]
  exact .mk (hQ _ _ ⟨rfl, rfl⟩)
def RdF (H : Heap) (v : AV) (l : List Mo) : Prop := ∀ H', H.next ≤ H'.next → (∀ i, i < H.next → H'.obj i = H.obj i) → Rd tM H' v l
theorem RdF.at {H : Heap} {v : AV} {l : List Mo} (h : RdF H v l) : Rd tM H v l := h H (Nat.le_refl _) fun _ _ => rfl
theorem ML.rdF {H : Heap} {v : AV} {l : List Mo} (h : ML tM v l) : RdF H v l := fun H' _ _ => h.rd H'
theorem AccP.rdF {own : Nat → Prop} {H : Heap} {v : AV} {l : List Mo} (h : AccP tM own H v l) : RdF H v l := fun H' hn ho => by
  cases h with
  | nil => exact (ML.rd (.inl ⟨rfl, rfl⟩) H')
  | vec => exact ML.rd (t := tM) (l := []) (.inr ⟨true, rfl⟩) H'
  | live id rel l n hnl hobj hid hidn hrel hne => exact Rd.live ((ho id hidn).trans hobj) hnl (by rw [hnl]; simp) (by omega)
theorem RdF.mono {H H1 : Heap} {v : AV} {l : List Mo} (h : RdF H v l) (hn : H.next ≤ H1.next) (ho : ∀ i, i < H.next → H1.obj i = H.obj i) : RdF H1 v l := fun H' h1 h2 => h H' (Nat.le_trans hn h1) fun i hi => (h2 i (Nat.lt_of_lt_of_le hi hn)).trans (ho i hi)
theorem rd_at {H : Heap} {v : AV} {l : List Mo} (h : Rd tM H v l) {i : Nat} (hi : i < l.length) : ∃ p, iaddrA none 8 v (.int .i64 i) = some p ∧ loadA H true 8 p = some (mono l[i]) := h.2 i hi
theorem l108_2 {v0 : AV} {l : List Mo} {a : Mo} {b : Nat} {H0 H : Heap} (hv : Rd tM H v0 l) (hl : l.length < 2 ^ 40) (hob : H.obj b = .cells a.cells none) : ∀ (m j : Nat) (σ : Sig), l.length - j = m → j ≤ l.length → σ 0 = v0 → σ 3 = .ptr b 0 → σ 7 = .int .i64 (l.length : Nat) → σ 8 = .int .i64 (j : Nat) →
    (∀ r : Int, (0 ≤ r ↔ a ∈ l.drop j) → Res (some (wrapA H0 (.int .i64 r) H)) Q) →
    Res (li (callI tab) L108_2 [.inBlock 0, .code S108_3] (fink [.tmp 4] false H0) σ H) Q := by
  intro m
  induction m with
  | zero =>
    intro j σ hm hj h0 h3 h7 h8 hQ
    rw [List.drop_of_length_le (by omega)] at hQ
    obtain ⟨il, hil⟩ : ∃ x, x = Jtm.inLoop L108_2 := ⟨_, rfl⟩; rw [li_eq' il hil]
    simp -implicitDefEqProofs (disch := first | omega | with_unfolding_all exact eqR (Eq.refl _)) [nums, -getElem!_pos, -Int.natCast_add, -Int.natCast_mul, -Int.natCast_ediv, L108_2, S108_1, h0, h3, h7, h8]
    subst hil
    try simp -implicitDefEqProofs (disch := first | omega | with_unfolding_all exact eqR (Eq.refl _)) [nums, -getElem!_pos, -Int.natCast_add, -Int.natCast_mul, -Int.natCast_ediv, S108_3]
    exact hQ _ (by simp)
  | succ m ih =>
    intro j σ hm hj h0 h3 h7 h8 hQ
    have hjl : j < l.length := by omega
    obtain ⟨p, e1, e2⟩ := rd_at hv hjl
    rw [List.drop_eq_getElem_cons hjl] at hQ
    by_cases he : a = l[j]
    · have he' : l[j] = a := he.symm
      rw [he'] at e2
      obtain ⟨il, hil⟩ : ∃ x, x = Jtm.inLoop L108_2 := ⟨_, rfl⟩; rw [li_eq' il hil]
      simp -implicitDefEqProofs (disch := first | omega | with_unfolding_all exact eqR (Eq.refl _)) [nums, -getElem!_pos, -Int.natCast_add, -Int.natCast_mul, -Int.natCast_ediv, L108_2, S108_1, h0, h3, h7, h8, e1, e2, hob, ldM]
      subst hil
      try simp -implicitDefEqProofs (disch := first | omega | with_unfolding_all exact eqR (Eq.refl _)) [nums, -getElem!_pos, -Int.natCast_add, -Int.natCast_mul, -Int.natCast_ediv]
      exact hQ _ ⟨fun _ => by rw [he]; exact List.mem_cons_self, fun _ => by omega⟩
    · obtain ⟨il, hil⟩ : ∃ x, x = Jtm.inLoop L108_2 := ⟨_, rfl⟩; rw [li_eq' il hil]
      simp -implicitDefEqProofs (disch := first | omega | with_unfolding_all exact eqR (Eq.refl _)) [nums, -getElem!_pos, -Int.natCast_add, -Int.natCast_mul, -Int.natCast_ediv, L108_2, S108_1, S108_0, h0, h3, h7, h8, e1, e2, hob, ldM, he]
      subst hil
      try simp -implicitDefEqProofs (disch := first | omega | with_unfolding_all exact eqR (Eq.refl _)) [nums, -getElem!_pos, -Int.natCast_add, -Int.natCast_mul, -Int.natCast_ediv]
      refine ih (j + 1) _ (by omega) (by omega) ?_ ?_ ?_ ?_ fun r hr => hQ r (by rw [hr, List.mem_cons]; simp [he])
      all_goals simp [h0, h3, h7, h8]
theorem call_108 {v0 : AV} {l : List Mo} {a : Mo} {H : Heap} (hv : RdF H v0 l) (hl : l.length < 2 ^ 40) : Res (callI tab 72 [v0, mono a] H) fun e H' => H' = H ∧ ∃ r : Int, e = .int .i64 r ∧ (0 ≤ r ↔ a ∈ l) := by
  refine .hide fun Q hQ => .enter tab_108 (by simp [AF108]) (.inl rfl) ?_
  have hr := hv (H.begin.new (.cells a.cells none)) (by show H.next ≤ H.next + 1; omega) fun i hi => by simp only [Heap.new, Heap.begin, upd]; rw [if_neg (by omega)]
  have hln := hr.1
  simp -implicitDefEqProofs (disch := first | omega | with_unfolding_all exact eqR (Eq.refl _)) [nums, -getElem!_pos, -Int.natCast_add, -Int.natCast_mul, -Int.natCast_ediv, AF108, hln]
  refine l108_2 (l := l) (a := a) (b := H.next) hr hl ?_ _ 0 _ rfl (by omega) ?_ ?_ ?_ ?_ fun r hr => ?_
  any_goals (first | (simp; done) | skip)
  rw [List.drop_zero] at hr
  have hw : wrapA H (.int .i64 r) (H.begin.new (.cells a.cells none)) = (.int .i64 r, H) := wrap_quiet rfl rfl
  rw [hw]
  exact .mk (hQ _ _ ⟨rfl, r, rfl, hr⟩)
theorem call_99 {v0 : AV} {l : List Mo} {a : Mo} {H : Heap} (hv : RdF H v0 l) (hl : l.length < 2 ^ 40) : callI tab 57 [v0, mono a] H = some (.bool (decide (a ∈ l)), H) := by
  refine res_eq (.hide fun Q hQ => .enter tab_99 (by simp [AF99]) (.inl rfl) ?_)
  have hr : RdF (H.begin.new (.cells a.cells none)) v0 l := hv.mono (by show H.next ≤ H.next + 1; omega) fun i hi => by simp only [Heap.new, Heap.begin, upd]; rw [if_neg (by omega)]
  simp -implicitDefEqProofs (disch := first | omega | with_unfolding_all exact eqR (Eq.refl _)) [nums, -getElem!_pos, -Int.natCast_add, -Int.natCast_mul, -Int.natCast_ediv, AF99, ldM]
  refine .call (call_108 (a := a) hr hl) fun e H' ⟨hH, r, he, hr⟩ => ?_
  subst hH he
  by_cases h0 : 0 ≤ r
  · have hm : a ∈ l := hr.1 h0
    simp -implicitDefEqProofs (disch := first | omega | with_unfolding_all exact eqR (Eq.refl _)) [nums, -getElem!_pos, -Int.natCast_add, -Int.natCast_mul, -Int.natCast_ediv, h0, hm]
    exact .mk (hQ _ _ ⟨by simp [hm], rfl⟩)
  · have hm : ¬ a ∈ l := fun h => h0 (hr.2 h)
    simp -implicitDefEqProofs (disch := first | omega | with_unfolding_all exact eqR (Eq.refl _)) [nums, -getElem!_pos, -Int.natCast_add, -Int.natCast_mul, -Int.natCast_ediv, h0, hm]
    exact .mk (hQ _ _ ⟨by simp [hm], rfl⟩)
end
end Go.Mach.Ytl
set_option linter.unusedSimpArgs false
set_option linter.unusedVariables false
set_option maxRecDepth 100000
namespace Go.Mach.Ytl
open Go.Mach
section
variable {s : List Jtm} {k : KF} {Q : AV → Heap → Prop}
attribute [local simp ↓ high] pureA_idx
attribute [local simp] guardI_u
theorem l67_2 {a : Mo} {H0 : Heap} (hb : H0.base ≤ H0.next) : ∀ (m j : Nat) (σ : Sig) (H : Heap) (w : AV) (cur : List Mo), 8 - j = m → j ≤ 8 → σ 3 = w → σ 7 = mono a → σ 8 = .int .i64 (j : Nat) → Acc tM H0 H w cur → Ow H0 H → cur.length ≤ j →
    (∀ σ' H' w', σ' 3 = w' → Acc tM H0 H' w' (cur ++ (((List.range 8).drop j).filter fun q => decide (0 < a.get q)).map fun q => Mo.zero.setI q (a.get q)) → Ow H0 H' → Res (ai (callI tab) s k .nrm σ' H') Q) →
    Res (li (callI tab) L67_2 (.inBlock 0 :: s) k σ H) Q := by
  intro m
  induction m with
  | zero =>
    intro j σ H w cur hm hj h3 h7 h8 ha ho hlen hQ
    have : j = 8 := by omega
    subst this
    obtain ⟨il, hil⟩ : ∃ x, x = Jtm.inLoop L67_2 := ⟨_, rfl⟩; rw [li_eq' il hil]
    simp -implicitDefEqProofs (disch := first | omega | with_unfolding_all exact eqR (Eq.refl _)) [nums, -getElem!_pos, -Int.natCast_add, -Int.natCast_mul, -Int.natCast_ediv, L67_2, S67_1, h3, h7, h8]
    subst hil
    try simp -implicitDefEqProofs (disch := first | omega | with_unfolding_all exact eqR (Eq.refl _)) [nums, -getElem!_pos, -Int.natCast_add, -Int.natCast_mul, -Int.natCast_ediv]
    refine hQ _ _ w ?_ (by rw [List.drop_of_length_le (by simp)]; simpa using ha) ho <;> simp [h3]
  | succ m ih =>
    intro j σ H w cur hm hj h3 h7 h8 ha ho hlen hQ
    have hj8 : j < 8 := by omega
    have c8 : ((j : Nat) : Int) < 8 := by omega
    rw [List.drop_eq_getElem_cons (by simp; omega), List.getElem_range] at hQ
    by_cases h0 : 0 < a.get j
    · rw [List.filter_cons_of_pos (by simpa using h0), List.map_cons, ← List.singleton_append, ← List.append_assoc] at hQ
      have o1 : Ow H0 ((H.new (.cells Mo.zero.cells none)).set H.next (.cells (Mo.zero.setI j (a.get j)).cells none)) := (ho.new _).set _ ho.next hb
      have a1 : Acc tM H0 ((H.new (.cells Mo.zero.cells none)).set H.next (.cells (Mo.zero.setI j (a.get j)).cells none)) w cur := ha.other (by show H.next ≤ H.next + 1; omega) fun i h1 h2 => by simp only [Heap.new, Heap.set, upd]; rw [if_neg (by omega), if_neg (by omega)]
      obtain ⟨w', H', e3, ha', ho'⟩ := a1.app (m := [Mo.zero.setI j (a.get j)]) (bs := 64) (ex := true) (n := 1) o1 hb (by simp) rfl (by simp; omega)
      rw [show tM.e = 8 from rfl, ← row_one] at e3
      obtain ⟨il, hil⟩ : ∃ x, x = Jtm.inLoop L67_2 := ⟨_, rfl⟩; rw [li_eq' il hil]
      simp -implicitDefEqProofs (disch := first | omega | with_unfolding_all exact eqR (Eq.refl _)) [nums, -getElem!_pos, -Int.natCast_add, -Int.natCast_mul, -Int.natCast_ediv, L67_2, S67_1, S67_0, h3, h7, h8, c8, idxV_mono, h0, iaddr_arr, storeI, ldM, bslR_mono, e3]
      subst hil
      try simp -implicitDefEqProofs (disch := first | omega | with_unfolding_all exact eqR (Eq.refl _)) [nums, -getElem!_pos, -Int.natCast_add, -Int.natCast_mul, -Int.natCast_ediv]
      refine ih (j + 1) _ H' w' _ (by omega) (by omega) ?_ ?_ ?_ ha' ho' (by simp; omega) hQ
      all_goals simp [h3, h7, h8]
    · rw [List.filter_cons_of_neg (by simpa using h0)] at hQ
      obtain ⟨il, hil⟩ : ∃ x, x = Jtm.inLoop L67_2 := ⟨_, rfl⟩; rw [li_eq' il hil]
      simp -implicitDefEqProofs (disch := first | omega | with_unfolding_all exact eqR (Eq.refl _)) [nums, -getElem!_pos, -Int.natCast_add, -Int.natCast_mul, -Int.natCast_ediv, L67_2, S67_1, S67_0, h3, h7, h8, c8, idxV_mono, h0]
      subst hil
      try simp -implicitDefEqProofs (disch := first | omega | with_unfolding_all exact eqR (Eq.refl _)) [nums, -getElem!_pos, -Int.natCast_add, -Int.natCast_mul, -Int.natCast_ediv]
      refine ih (j + 1) _ H w cur (by omega) (by omega) ?_ ?_ ?_ ha ho (by omega) hQ
      all_goals simp [h3, h7, h8]
theorem powL_len {a : Mo} : (powL a).length ≤ 8 := by
  rw [powL, List.length_map]
  exact Nat.le_trans (List.length_filter_le _ _) (by simp)
theorem call_67 {a : Mo} {H : Heap} : Res (callI tab 28 [mono a] H) fun e H' => H' = H ∧ ML tM e (powL a) := by
  refine .hide fun Q hQ => .enter tab_67 (by simp [AF67]) (.inr (by simp)) ?_
  simp -implicitDefEqProofs (disch := first | omega | with_unfolding_all exact eqR (Eq.refl _)) [nums, -getElem!_pos, -Int.natCast_add, -Int.natCast_mul, -Int.natCast_ediv, AF67, ldM]
  refine l67_2 (a := a) (H0 := H.begin) (Nat.le_refl _) _ 0 _ _ .nils [] rfl (by omega) ?_ ?_ ?_ .nil (.new (.refl _) _) (by simp) fun σ' H' w' q3 ha ho => ?_
  any_goals (first | (simp; done) | skip)
  obtain ⟨e, H2, hz, hml, ho2⟩ := ha.frz ho (Nat.le_refl _) (Nat.le_refl _) 5
  have hnn := hml.nonew H.next 3
  have hws : H2.ws = [] := ho2.ws
  have hz' : Mach.frz H.next 6 H' w' = some (e, H2) := hz
  simp -implicitDefEqProofs (disch := first | omega | with_unfolding_all exact eqR (Eq.refl _)) [nums, -getElem!_pos, -Int.natCast_add, -Int.natCast_mul, -Int.natCast_ediv, S67_3, q3, hz', hnn, wrap_quiet hws hnn]
  exact .mk (hQ _ _ ⟨rfl, by simpa [powL] using hml⟩)
theorem call_68 {b : Nat} {m : Mo} : PredM 29 b (.cells m.cells none) (fun p => dvd p m) := by
  intro a H hb ho
  refine callI_enter tab_68 (by simp [AF68]) (.inr (by simp)) ?_
  have hne : b ≠ H.next := by omega
  simp -implicitDefEqProofs (disch := first | omega | with_unfolding_all exact eqR (Eq.refl _)) [nums, -getElem!_pos, -Int.natCast_add, -Int.natCast_mul, -Int.natCast_ediv, AF68, call_33', ho, hne, dvd]
theorem call_71 : CmpM 33 (fun a c => Mo.cmp c a) := by
  intro a c H
  refine callI_enter tab_71 (by simp [AF71]) (.inr (by simp)) ?_
  have hne : ¬ H.next = H.next + 1 := by omega
  simp -implicitDefEqProofs (disch := first | omega | with_unfolding_all exact eqR (Eq.refl _)) [nums, -getElem!_pos, -Int.natCast_add, -Int.natCast_mul, -Int.natCast_ediv, AF71, call_35', ldM, hne]
theorem call_65 {b n : Nat} : PredM 23 b (.cells [.int .i64 (n : Nat)] none) (fun m => !decide m.valid || decide (n < len8 (supN m))) := by
  intro a H hb ho
  refine callI_enter tab_65 (by simp [AF65]) (.inr (by simp)) ?_
  have hne : b ≠ H.next := by omega
  have hs := supN_lt a
  have c66 := fun H => call_66 hs (H := H)
  have c45 := fun H => call_45' (a := a) (H := H)
  have c43 := fun H => call_43' (a := a) (H := H)
  by_cases hv : a.valid
  · simp -implicitDefEqProofs (disch := first | omega | with_unfolding_all exact eqR (Eq.refl _)) [nums, -getElem!_pos, -Int.natCast_add, -Int.natCast_mul, -Int.natCast_ediv, AF65, ldM, load1, ho, hne, c45, c43, c66, hv]
  · simp -implicitDefEqProofs (disch := first | omega | with_unfolding_all exact eqR (Eq.refl _)) [nums, -getElem!_pos, -Int.natCast_add, -Int.natCast_mul, -Int.natCast_ediv, AF65, ldM, load1, ho, hne, c45, c43, c66, hv]
theorem call_87L {own : Nat → Prop} {v : AV} {l : List Mo} {H : Heap} (h : AccP tM own H v l) (hne : l ≠ []) (hl : l.length < 2 ^ 16) : callI tab 49 [v] H = some (.sl H.next 0 l.length l.length false 8, H.new (.cells (tM.row l) none)) := by
  cases h with
  | nil => exact absurd rfl hne
  | vec => exact absurd rfl hne
  | live id rel l n hnl hobj hid hidn hrel hne' =>
    subst hnl
    have hl0 : l.length ≠ 0 := by simpa using hne
    have hlen : (tM.row l).length = l.length * 8 := tM.row_length l
    have happ : appA H.begin 8 64 (.vec 0 true []) (.sl id 0 l.length l.length false tM.e) = some (.sl H.next 0 l.length l.length false 8, H.begin.new (.cells (tM.row l) none)) := by
      have hsrc : srcA H.begin 8 (.sl id 0 l.length l.length false tM.e) = some (l.length, tM.row l) := by
        simp only [srcA]
        simp [hobj, hlen, List.take_of_length_le]
      simp only [appA, hsrc]
      rw [if_neg hl0, if_pos ⟨by omega, by simp⟩]
      simp
    refine callI_enter tab_87 (by simp [AF87]) (.inl rfl) ?_
    simp -implicitDefEqProofs (disch := first | omega | with_unfolding_all exact eqR (Eq.refl _)) [nums, -getElem!_pos, -Int.natCast_add, -Int.natCast_mul, -Int.natCast_ediv, AF87, S87_0, eqNil, happ]
    unfold wrapA
    have h : (AV.sl H.next 0 l.length l.length false 8).noNew H.next 4 = false := by simp [AV.noNew]
    have hu : unrelO H.next (AV.sl H.next 0 l.length l.length false 8) (H.begin.new (.cells (tM.row l) none)).obj = (H.begin.new (.cells (tM.row l) none)).obj := by simp [unrelO, Heap.new, upd]
    show (if (AV.sl H.next 0 l.length l.length false 8).noNew H.next 4 = true then _ else _) = _
    rw [h, hu]
    rfl
end
end Go.Mach.Ytl
