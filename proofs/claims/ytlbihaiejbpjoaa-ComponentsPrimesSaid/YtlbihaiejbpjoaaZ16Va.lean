/-
  Pruned copy of the text Va. By an AI agent.
-/
import Derived.Test.YtlbihaiejbpjoaaZ16Se
set_option linter.unusedSimpArgs false
set_option linter.unusedVariables false
set_option maxRecDepth 100000
namespace Go.Mach.Ytl
open Go.Mach
def colonM (t a : Mo) : Mo := Mo.map2 isub a (Mo.map2 imin a t)
def addM (u t : Mo) : Mo := Mo.map2 (· + ·) u t
theorem add_get {u t : Mo} {q : Nat} (h : q < 8) : (addM u t).get q = u.get q + t.get q := map2_get h
theorem add_nn {u t : Mo} (hu : u.nn) (ht : t.nn) : (addM u t).nn := nn_get.2 fun q hq => by
  rw [add_get hq]; have := nn_get.1 hu q hq; have := nn_get.1 ht q hq; omega
def Small (t : Mo) : Prop := ∀ q, 0 ≤ t.get q ∧ t.get q ≤ 4
theorem Small.nn {t : Mo} (h : Small t) : t.nn := nn_get.2 fun q _ => (h q).1
theorem colon_get {n : Nat} {a t : Mo} (ha : Box n a) (ht : Small t) {q : Nat} (hq : q < 8) : (colonM t a).get q = if a.get q ≤ t.get q then 0 else a.get q - t.get q := by
  unfold colonM
  rw [map2_get hq, map2_get hq]
  have h1 := ha q; have h2 := ht q
  unfold isub imin
  split
  · rw [wrap_int (by omega) (by omega), if_neg (by omega)]
  · rw [wrap_int (by omega) (by omega)]
    by_cases h : a.get q ≤ t.get q
    · rw [if_pos h]; omega
    · omega
theorem colon_box {n : Nat} {a t : Mo} (ha : Box n a) (ht : Small t) : Box n (colonM t a) := fun q => by
  by_cases hq : q < 8
  · rw [colon_get ha ht hq]
    have h1 := ha q; have h2 := ht q
    split
    · omega
    · refine ⟨by omega, by omega, fun h => ?_⟩
      have := h1.2.2 h; omega
  · rw [get_big (by omega)]; omega
theorem colon_le {n : Nat} {a t u : Mo} (ha : Box n a) (ht : Small t) (hu : u.nn) : Mo.le (colonM t a) u ↔ Mo.le a (addM u t) := by
  rw [le_get, le_get]
  have key : ∀ q, q < 8 → ((colonM t a).get q ≤ u.get q ↔ a.get q ≤ (addM u t).get q) := fun q hq => by
    rw [colon_get ha ht hq, add_get hq]
    have h1 := ha q; have h2 := ht q; have h3 := nn_get.1 hu q hq
    split <;> omega
  exact ⟨fun h q hq => (key q hq).1 (h q hq), fun h q hq => (key q hq).2 (h q hq)⟩
theorem colon_sem {n : Nat} {L c : List Mo} {t : Mo} (hL : ∀ m ∈ L, Box n m) (ht : Small t) (hc : IsMin (L.map (colonM t)) c) {u : Mo} (hu : u.nn) : (∃ x ∈ c, Mo.le x u) ↔ ∃ m ∈ L, Mo.le m (addM u t) := by
  have h := min_sem hc (n := n) (fun x hx => by
    obtain ⟨a, ha, rfl⟩ := List.mem_map.1 hx
    exact colon_box (hL a ha) ht) u
  rw [h]
  constructor
  · rintro ⟨x, hx, h⟩
    obtain ⟨a, ha, rfl⟩ := List.mem_map.1 hx
    exact ⟨a, ha, (colon_le (hL a ha) ht hu).1 h⟩
  · rintro ⟨a, ha, h⟩
    exact ⟨_, List.mem_map.2 ⟨a, ha, rfl⟩, (colon_le (hL a ha) ht hu).2 h⟩
def eM (q : Nat) : Mo := Mo.zero.setI q 1
theorem eM_get {q j : Nat} (h : q < 8) : (eM q).get j = if j = q then 1 else 0 := by
  unfold eM; rw [get_set h, zero_get]
theorem eM_nn {q : Nat} (h : q < 8) : (eM q).nn := nn_get.2 fun j _ => by rw [eM_get h]; split <;> omega
theorem eM_le {q : Nat} {u : Mo} (h : q < 8) (hu : u.nn) : Mo.le (eM q) u ↔ 1 ≤ u.get q := by
  rw [le_get]
  constructor
  · intro k; have := k q h; rw [eM_get h, if_pos rfl] at this; exact this
  · intro k j hj
    rw [eM_get h]
    split
    · rename_i e; subst e; exact k
    · exact nn_get.1 hu j hj
theorem eM_deg : ∀ q, q < 8 → (eM q).deg = 1 := by decide +kernel
theorem deg_sum {x : Mo} (h : ∀ q, 0 ≤ x.get q ∧ x.get q ≤ 10) : x.deg = x.x0 + x.x1 + x.x2 + x.x3 + x.x4 + x.x5 + x.x6 + x.x7 := by
  have h0 := h 0; have h1 := h 1; have h2 := h 2; have h3 := h 3; have h4 := h 4; have h5 := h 5; have h6 := h 6; have h7 := h 7
  obtain ⟨x0, x1, x2, x3, x4, x5, x6, x7⟩ := x
  simp only [Mo.get] at h0 h1 h2 h3 h4 h5 h6 h7
  simp only [Mo.deg]
  have key : ∀ a b : Int, 0 ≤ a → a ≤ 1000 → 0 ≤ b → b ≤ 10 → iadd a b = a + b := fun a b _ _ _ _ => wrap_int (by omega) (by omega)
  rw [key 0 x0 (by omega) (by omega) (by omega) (by omega), key (0 + x0) x1 (by omega) (by omega) (by omega) (by omega), key (0 + x0 + x1) x2 (by omega) (by omega) (by omega) (by omega), key (0 + x0 + x1 + x2) x3 (by omega) (by omega) (by omega) (by omega),
    key (0 + x0 + x1 + x2 + x3) x4 (by omega) (by omega) (by omega) (by omega), key (0 + x0 + x1 + x2 + x3 + x4) x5 (by omega) (by omega) (by omega) (by omega), key (0 + x0 + x1 + x2 + x3 + x4 + x5) x6 (by omega) (by omega) (by omega) (by omega), key (0 + x0 + x1 + x2 + x3 + x4 + x5 + x6) x7 (by omega) (by omega) (by omega) (by omega)]
  omega
theorem unit_of_deg {x : Mo} (h : ∀ q, 0 ≤ x.get q ∧ x.get q ≤ 10) (hd : x.deg = 1) : ∃ q, q < 8 ∧ x = eM q := by
  rw [deg_sum h] at hd
  have h0 := h 0; have h1 := h 1; have h2 := h 2; have h3 := h 3; have h4 := h 4; have h5 := h 5; have h6 := h 6; have h7 := h 7
  obtain ⟨x0, x1, x2, x3, x4, x5, x6, x7⟩ := x
  simp only [Mo.get] at h0 h1 h2 h3 h4 h5 h6 h7
  simp only at hd
  rcases (by omega : x0 = 1 ∨ x1 = 1 ∨ x2 = 1 ∨ x3 = 1 ∨ x4 = 1 ∨ x5 = 1 ∨ x6 = 1 ∨ x7 = 1) with e | e | e | e | e | e | e | e
  · exact ⟨0, by omega, by simp only [eM, Mo.setI, Mo.zero, Mo.mk.injEq]; omega⟩
  · exact ⟨1, by omega, by simp only [eM, Mo.setI, Mo.zero, Mo.mk.injEq]; omega⟩
  · exact ⟨2, by omega, by simp only [eM, Mo.setI, Mo.zero, Mo.mk.injEq]; omega⟩
  · exact ⟨3, by omega, by simp only [eM, Mo.setI, Mo.zero, Mo.mk.injEq]; omega⟩
  · exact ⟨4, by omega, by simp only [eM, Mo.setI, Mo.zero, Mo.mk.injEq]; omega⟩
  · exact ⟨5, by omega, by simp only [eM, Mo.setI, Mo.zero, Mo.mk.injEq]; omega⟩
  · exact ⟨6, by omega, by simp only [eM, Mo.setI, Mo.zero, Mo.mk.injEq]; omega⟩
  · exact ⟨7, by omega, by simp only [eM, Mo.setI, Mo.zero, Mo.mk.injEq]; omega⟩
def orL (c : List Mo) : Nat := c.foldl (fun a x => a ||| supN x) 0
theorem orL_bit {q : Nat} : ∀ (c : List Mo) (a : Nat), (c.foldl (fun a x => a ||| supN x) a).testBit q = (a.testBit q || c.any fun x => (supN x).testBit q)
  | [], a => by simp
  | x :: c, a => by rw [List.foldl_cons, orL_bit c, Nat.testBit_or, List.any_cons, Bool.or_assoc]
theorem orL_lt : ∀ (c : List Mo) (a : Nat), a < 256 → c.foldl (fun a x => a ||| supN x) a < 256
  | [], a, h => h
  | x :: c, a, h => orL_lt c _ (Nat.or_lt_two_pow (n := 8) h (supN_lt x))
theorem set_ext {a b : Nat} (ha : a < 256) (hb : b < 256) (h : ∀ q, q < 8 → (a.testBit q = true ↔ b.testBit q = true)) : a = b := by
  apply Nat.eq_of_testBit_eq
  intro q
  by_cases hq : q < 8
  · rw [Bool.eq_iff_iff]; exact h q hq
  · have h8 : (256 : Nat) ≤ 2 ^ q := by
      have : 2 ^ 8 ≤ 2 ^ q := Nat.pow_le_pow_right (by omega) (by omega)
      omega
    rw [Nat.testBit_lt_two_pow (by omega), Nat.testBit_lt_two_pow (by omega)]
def PrT (L : List Mo) (t : Mo) (s : Nat) : Prop := ∀ u, u.nn → ((∃ m ∈ L, Mo.le m (addM u t)) ↔ inQ (primeM s) u)
theorem inQ_eM {s q : Nat} (hq : q < 8) : inQ (primeM s) (eM q) ↔ s.testBit q = true := by
  rw [inQ_prime]
  constructor
  · rintro ⟨j, hj, h1, h2⟩
    rw [eM_get hq] at h2
    by_cases e : j = q
    · subst e; exact h1
    · rw [if_neg e] at h2; omega
  · intro h; exact ⟨q, hq, h, by rw [eM_get hq, if_pos rfl]; omega⟩
theorem supN_eM {q j : Nat} (hq : q < 8) (hj : j < 8) : (supN (eM q)).testBit j = true ↔ j = q := by
  rw [supN_bit _ hj, decide_eq_true_eq, eM_get hq]
  split <;> simp_all
theorem colon_prime {n : Nat} {L c : List Mo} {t : Mo} {s : Nat} (hL : ∀ m ∈ L, Box n m) (ht : Small t) (hc : IsMin (L.map (colonM t)) c) (hs : s < 256) : ((∀ x ∈ c, x.deg = 1) ∧ orL c = s) ↔ PrT L t s := by
  have hbx : ∀ x ∈ c, Box n x := fun x hx => by
    obtain ⟨a, ha, rfl⟩ := List.mem_map.1 (hc.sub hx)
    exact colon_box (hL a ha) ht
  have hsm : ∀ x ∈ c, ∀ q, 0 ≤ x.get q ∧ x.get q ≤ 10 := fun x hx q => by have := hbx x hx q; omega
  constructor
  · rintro ⟨hd, ho⟩ u hu
    rw [← colon_sem hL ht hc hu, inQ_prime]
    constructor
    · rintro ⟨x, hx, hle⟩
      obtain ⟨q, hq, rfl⟩ := unit_of_deg (hsm x hx) (hd x hx)
      refine ⟨q, hq, ?_, (eM_le hq hu).1 hle⟩
      rw [← ho, orL, orL_bit, Bool.or_eq_true, List.any_eq_true]
      exact .inr ⟨_, hx, (supN_eM hq hq).2 rfl⟩
    · rintro ⟨q, hq, hb, h1⟩
      rw [← ho, orL, orL_bit, Bool.or_eq_true, List.any_eq_true] at hb
      rcases hb with hb | ⟨x, hx, hb⟩
      · simp at hb
      · obtain ⟨j, hj, rfl⟩ := unit_of_deg (hsm x hx) (hd x hx)
        have e := (supN_eM hj hq).1 hb
        subst e
        exact ⟨_, hx, (eM_le hq hu).2 h1⟩
  · intro hp
    have sem : ∀ u, u.nn → ((∃ x ∈ c, Mo.le x u) ↔ inQ (primeM s) u) := fun u hu => (colon_sem hL ht hc hu).trans (hp u hu)
    have unit : ∀ x ∈ c, ∃ q, q < 8 ∧ s.testBit q = true ∧ x = eM q := fun x hx => by
      obtain ⟨q, hq, hb, h1⟩ := inQ_prime.1 ((sem x (hbx x hx).nn).1 ⟨x, hx, le_refl'⟩)
      obtain ⟨y, hy, hle⟩ := (sem (eM q) (eM_nn hq)).2 ((inQ_eM hq).2 hb)
      have h2 := le_tr hle ((eM_le hq (hbx x hx).nn).2 h1)
      have := ((hc.self.mem x).1 hx).2 y hy h2
      subst this
      exact ⟨q, hq, hb, le_anti hle ((eM_le hq (hbx _ hx).nn).2 h1)⟩
    refine ⟨fun x hx => ?_, set_ext (orL_lt c 0 (by omega)) hs fun q hq => ?_⟩
    · obtain ⟨q, hq, _, rfl⟩ := unit x hx
      exact eM_deg q hq
    · rw [orL, orL_bit, Bool.or_eq_true, List.any_eq_true]
      constructor
      · rintro (h | ⟨x, hx, hb⟩)
        · simp at h
        · obtain ⟨j, hj, hb2, rfl⟩ := unit x hx
          have e := (supN_eM hj hq).1 hb
          subst e; exact hb2
      · intro hb
        obtain ⟨y, hy, hle⟩ := (sem (eM q) (eM_nn hq)).2 ((inQ_eM hq).2 hb)
        obtain ⟨j, hj, _, rfl⟩ := unit y hy
        have h1 := (eM_le hj (eM_nn hq)).1 hle
        rw [eM_get hq] at h1
        by_cases e : j = q
        · subst e; exact .inr ⟨_, hy, (supN_eM hj hj).2 rfl⟩
        · rw [if_neg e] at h1; omega
theorem allV_mem : ∀ (n : Nat) (t : Mo), n ≤ 8 → (∀ q, 0 ≤ t.get q ∧ t.get q ≤ 4 ∧ (n ≤ q → t.get q = 0)) → t ∈ allV n
  | 0, t, _, h => by
    have : t = Mo.zero := Mo.ext' fun q _ => by rw [zero_get]; exact (h q).2.2 (by omega)
    rw [this]; simp [allV]
  | n + 1, t, hn, h => by
    have h1 := allV_mem n (t.setI n 0) (by omega) fun q => by
      rw [get_set (by omega)]
      split
      · omega
      · have := h q; exact ⟨this.1, this.2.1, fun hq => this.2.2 (by omega)⟩
    simp only [allV, List.mem_flatMap, List.mem_map, List.mem_range]
    have h2 := h n
    refine ⟨_, h1, (t.get n).toNat, by omega, Mo.ext' fun q hq => ?_⟩
    rw [get_set (by omega), get_set (by omega)]
    split
    · rename_i e; subst e; omega
    · rfl
def capN (n : Nat) (a : Mo) : Nat → Mo
  | 0 => Mo.zero
  | j + 1 => (capN n a j).setI j (if j < n then dualE (a.get j) else 0)
theorem capN_get {n : Nat} {a : Mo} : ∀ j, j ≤ 8 → ∀ q, (capN n a j).get q = if q < j then (if q < n then dualE (a.get q) else 0) else 0
  | 0, _, q => by simp [capN, zero_get]
  | j + 1, h, q => by
    rw [capN, get_set (by omega)]
    by_cases hq : q = j
    · subst hq; rw [if_pos rfl, if_pos (show q < q + 1 by omega)]
    · rw [if_neg hq, capN_get j (by omega) q]
      by_cases h2 : q < j
      · rw [if_pos h2, if_pos (show q < j + 1 by omega)]
      · rw [if_neg h2, if_neg (show ¬ q < j + 1 by omega)]
theorem cap_get {n : Nat} {a : Mo} {q : Nat} (h : q < 8) : (capN n a 8).get q = if q < n then dualE (a.get q) else 0 := by rw [capN_get 8 (Nat.le_refl _), if_pos h]
theorem dualE_range {e : Int} (h0 : 0 ≤ e) (h3 : e ≤ 3) : 0 ≤ dualE e ∧ dualE e ≤ 3 := by unfold dualE; split <;> omega
theorem prime_iff {n : Nat} {L P : List Mo} {S : List Int} (hn : n ≤ 8) (hL : ∀ m ∈ L, Box n m) (hi : Irr L P) (hs : Sets P S) {s : Nat} (hs8 : s < 256) : (∃ t ∈ allV n, PrT L t s) ↔ ((s : Nat) : Int) ∈ S := by
  have hbx := hi.good.box hL
  rw [hs.mem]
  constructor
  · rintro ⟨t, ht, hp⟩
    have htg := allV_get n hn t ht
    have htn : t.nn := nn_get.2 fun q _ => (htg q).1
    -- off the set, as large as needed
    obtain ⟨u, hu⟩ : ∃ u : Mo, ∀ q, q < 8 → u.get q = if s.testBit q then 0 else 4 := by
      refine ⟨Mo.map2 (fun x _ => if x = 1 then 0 else 4) (primeM s) Mo.zero, fun q hq => ?_⟩
      rw [map2_get hq, prime_get hq]
      cases s.testBit q <;> simp
    have hun : u.nn := nn_get.2 fun q hq => by rw [hu q hq]; split <;> omega
    have hno : ¬ inQ (primeM s) u := fun h => by
      obtain ⟨q, hq, hb, h1⟩ := inQ_prime.1 h
      rw [hu q hq, if_pos hb] at h1; omega
    have h1 : ¬ ∀ b ∈ P, inQ b (addM u t) := fun h => hno ((hp u hun).1 ((hi.sem _ (add_nn hun htn)).1 h))
    obtain ⟨b, h2⟩ := Classical.not_forall.1 h1
    obtain ⟨hb, h3⟩ := Classical.not_imp.1 h2
    have h4 : ∀ q, q < 8 → 0 < b.get q → u.get q + t.get q < b.get q := fun q hq h0 => by
      apply Classical.byContradiction
      intro h5
      exact h3 ⟨q, hq, h0, by rw [add_get hq]; omega⟩
    refine ⟨b, hb, ?_⟩
    congr 1
    refine set_ext (supN_lt b) hs8 fun q hq => ?_
    rw [supN_bit b hq, decide_eq_true_eq]
    constructor
    · intro h0
      have h5 := h4 q hq h0
      have h6 := hbx b hb q
      have h7 := htg q
      rw [hu q hq] at h5
      by_cases hbit : s.testBit q = true
      · exact hbit
      · rw [if_neg hbit] at h5; omega
    · intro hbit
      have h5 := (hi.sem _ (add_nn (eM_nn hq) htn)).2 ((hp (eM q) (eM_nn hq)).2 ((inQ_eM hq).2 hbit)) b hb
      obtain ⟨j, hj, h0, h6⟩ := h5
      rw [add_get hj, eM_get hq] at h6
      have h7 := h4 j hj h0
      have h8 := nn_get.1 hun j hj
      by_cases e : j = q
      · subst e; exact h0
      · rw [if_neg e] at h6; omega
  · rintro ⟨a, ha, e⟩
    have es : supN a = s := by omega
    have hba := hbx a ha
    have hcg : ∀ q, 0 ≤ (capN n a 8).get q ∧ (capN n a 8).get q ≤ 4 ∧ (n ≤ q → (capN n a 8).get q = 0) := fun q => by
      by_cases hq : q < 8
      · rw [cap_get hq]
        have h1 := hba q
        have h2 := dualE_range h1.1 h1.2.1
        split
        · omega
        · omega
      · rw [get_big (by omega)]; omega
    refine ⟨capN n a 8, allV_mem n _ hn hcg, fun u hu => ?_⟩
    have hcn : (capN n a 8).nn := nn_get.2 fun q _ => (hcg q).1
    rw [← hi.sem _ (add_nn hu hcn), inQ_prime]
    constructor
    · intro h
      obtain ⟨q, hq, h0, h1⟩ := h a ha
      have hqn : q < n := by
        apply Classical.byContradiction
        intro h2
        have := (hba q).2.2 (by omega); omega
      rw [add_get hq, cap_get hq, if_pos hqn] at h1
      unfold dualE at h1
      rw [if_neg (by omega)] at h1
      exact ⟨q, hq, by rw [← es, supN_bit a hq]; simpa using h0, by omega⟩
    · rintro ⟨q, hq, hb, h1⟩ b hbP
      rw [← es, supN_bit a hq, decide_eq_true_eq] at hb
      by_cases hin : insB b a = true
      · have := hi.good.anti a ha b hbP hin
        subst this
        have hqn : q < n := by
          apply Classical.byContradiction
          intro h2
          have := (hba q).2.2 (by omega); omega
        refine ⟨q, hq, hb, ?_⟩
        rw [add_get hq, cap_get hq, if_pos hqn]
        unfold dualE
        rw [if_neg (by omega)]; omega
      · rw [insB_iff] at hin
        obtain ⟨j, hin⟩ := Classical.not_forall.1 hin
        obtain ⟨hj, hin⟩ := Classical.not_imp.1 hin
        obtain ⟨h0, hin⟩ := Classical.not_imp.1 hin
        have h2 := hbx b hbP j
        have hjn : j < n := by
          apply Classical.byContradiction
          intro h3
          have := h2.2.2 (by omega); omega
        refine ⟨j, hj, h0, ?_⟩
        have h4 := nn_get.1 hu j hj
        rw [add_get hj, cap_get hj, if_pos hjn]
        unfold dualE
        split
        · omega
        · rename_i hne
          have : ¬ a.get j ≤ b.get j := fun h5 => hin ⟨hne, h5⟩
          omega
theorem asc_range {S : List Int} {F : Nat → Bool} (h1 : S.Pairwise (· < ·)) (h2 : ∀ s ∈ S, ∃ k : Nat, k < 256 ∧ s = (k : Int)) (h3 : ∀ s : Nat, s < 256 → (F s = true ↔ ((s : Nat) : Int) ∈ S)) : S = ((List.range 256).filter F).map fun s : Nat => ((s : Nat) : Int) := by
  have hp : (((List.range 256).filter F).map fun s : Nat => ((s : Nat) : Int)).Pairwise (· < ·) := by
    rw [List.pairwise_map]
    exact (List.pairwise_lt_range.sublist List.filter_sublist).imp fun h => by omega
  have hm : ∀ x, x ∈ S ↔ x ∈ ((List.range 256).filter F).map fun s : Nat => ((s : Nat) : Int) := fun x => by
    rw [List.mem_map]
    constructor
    · intro h
      obtain ⟨k, hk, rfl⟩ := h2 x h
      exact ⟨k, List.mem_filter.2 ⟨by simpa using hk, (h3 k hk).2 h⟩, rfl⟩
    · rintro ⟨k, hk, rfl⟩
      have := List.mem_filter.1 hk
      exact (h3 k (by simpa using this.1)).1 this.2
  exact asc_ext S _ h1 hp hm
end Go.Mach.Ytl
