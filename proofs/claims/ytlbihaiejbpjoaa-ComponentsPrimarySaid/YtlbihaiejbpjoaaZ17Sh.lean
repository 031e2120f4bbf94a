/-
  Pruned copy of the text Sh. By an AI agent.
-/
import Derived.Test.YtlbihaiejbpjoaaZ17Va
import Derived.Test.YtlbihaiejbpjoaaZ17Sf
set_option linter.unusedSimpArgs false
set_option linter.unusedVariables false
set_option maxRecDepth 100000
namespace Go.Mach.Ytl
open Go.Mach
def onesTo (s : Nat) : Nat → Nat
  | 0 => 0
  | j + 1 => onesTo s j + s / 2 ^ j % 2
def onesN (s : Nat) : Nat := onesTo s 8
theorem onesTo_le {s : Nat} : ∀ j, onesTo s j ≤ j
  | 0 => Nat.le_refl _
  | j + 1 => by
    have := onesTo_le (s := s) j
    have h2 : s / 2 ^ j % 2 < 2 := Nat.mod_lt _ (by omega)
    simp only [onesTo]; omega
theorem ones_pow : ∀ q, q < 8 → onesN (2 ^ q) = 1 := by decide +kernel
theorem Mg.meet {A B r g r' : List Mo} (h : Mg A r) (hg : Mg B g) (hm : IsMin (lcms r g) r') : Mg (A ++ B) r' where
  min := hm.self
  exps x hx q := by
    obtain ⟨p, hp, y, hy, rfl⟩ := lcms_mem.1 (hm.sub hx)
    by_cases hq : q < 8
    · rw [map2_get hq]
      unfold imax
      split
      · rcases hg.exps y hy q with e | ⟨b, hb, h0, e⟩
        · exact .inl e
        · exact .inr ⟨b, by simp [hb], h0, e⟩
      · rcases h.exps p hp q with e | ⟨b, hb, h0, e⟩
        · exact .inl e
        · exact .inr ⟨b, by simp [hb], h0, e⟩
    · exact .inl (get_big (by omega))
  sem t ht := by
    have hnn : ∀ x ∈ lcms r g, x.nn := fun x hx => by
      obtain ⟨p, hp, q, hq, rfl⟩ := lcms_mem.1 hx
      exact max_nn (h.nn p hp) (hg.nn q hq)
    have e := hm.any_le hnn t
    rw [lcms_any, Bool.eq_iff_iff, Bool.and_eq_true, List.any_eq_true, List.any_eq_true, List.any_eq_true] at e
    simp only [decide_eq_true_eq] at e
    rw [e, h.sem t ht, hg.sem t ht]
    constructor
    · rintro ⟨h1, h2⟩ b hb
      rcases List.mem_append.1 hb with hb | hb
      · exact h1 b hb
      · exact h2 b hb
    · intro h1
      exact ⟨fun b hb => h1 b (List.mem_append_left _ hb), fun b hb => h1 b (List.mem_append_right _ hb)⟩
def powS (g : List Mo) (a : Nat) : Nat := g.foldl (fun a x => if onesN (supN x) = 1 then a ||| supN x else a) a
theorem powS_bit {q : Nat} : ∀ (g : List Mo) (a : Nat), (powS g a).testBit q = (a.testBit q || g.any fun x => decide (onesN (supN x) = 1) && (supN x).testBit q)
  | [], a => by simp [powS]
  | x :: g, a => by
    have ih := powS_bit (q := q) g
    simp only [powS, List.foldl_cons, List.any_cons] at ih ⊢
    rw [ih]
    by_cases h : onesN (supN x) = 1
    · rw [if_pos h, decide_eq_true h, Nat.testBit_or, Bool.true_and, Bool.or_assoc]
    · rw [if_neg h, decide_eq_false h, Bool.false_and, Bool.false_or]
theorem powS_lt : ∀ (g : List Mo) (a : Nat), a < 256 → powS g a < 256
  | [], a, h => h
  | x :: g, a, h => by
    have ih := powS_lt g
    simp only [powS, List.foldl_cons] at ih ⊢
    apply ih
    split
    · exact Nat.or_lt_two_pow (n := 8) h (supN_lt x)
    · exact h
theorem part_sub {A g : List Mo} {s : Nat} (h : Mg A g) (hA : ∀ a ∈ A, supN a = s) {y : Mo} (hy : y ∈ g) : ∀ q, q < 8 → (supN y).testBit q = true → s.testBit q = true := by
  have hyn := h.nn y hy
  have hy' : (Mo.map2 (fun b x => if b = 1 then x else 0) (primeM s) y).nn := nn_get.2 fun q hq => by
    rw [map2_get hq]; split
    · exact nn_get.1 hyn q hq
    · omega
  have hg : ∀ q, q < 8 → (Mo.map2 (fun b x => if b = 1 then x else 0) (primeM s) y).get q = if s.testBit q then y.get q else 0 := fun q hq => by
    rw [map2_get hq, prime_get hq]
    cases s.testBit q <;> simp
  obtain ⟨z, hz, hle⟩ := (h.sem _ hy').2 fun b hb => by
    obtain ⟨q, hq, h0, h1⟩ := (h.sem y hyn).1 ⟨y, hy, le_refl'⟩ b hb
    refine ⟨q, hq, h0, ?_⟩
    rw [hg q hq, if_pos (by rw [← hA b hb, supN_bit b hq]; simpa using h0)]
    exact h1
  have hzy : Mo.le z y := le_get.2 fun q hq => by
    have := le_get.1 hle q hq
    rw [hg q hq] at this
    have h2 := nn_get.1 hyn q hq
    split at this <;> omega
  have := ((h.min.mem y).1 hy).2 z hz hzy
  subst this
  intro q hq hb
  rw [supN_bit z hq, decide_eq_true_eq] at hb
  have h3 := le_get.1 hle q hq
  rw [hg q hq] at h3
  by_cases hs : s.testBit q = true
  · exact hs
  · rw [if_neg hs] at h3; omega
theorem part_pow {n : Nat} {A g : List Mo} {s : Nat} (h : Mg A g) (hA : ∀ a ∈ A, supN a = s) (hbx : ∀ a ∈ A, Box n a) (hne : A ≠ []) (hs : s < 256) : powS g 0 = s := by
  refine set_ext (powS_lt g 0 (by omega)) hs fun q hq => ?_
  rw [powS_bit, Bool.or_eq_true, List.any_eq_true]
  simp only [Bool.and_eq_true, decide_eq_true_eq]
  constructor
  · rintro (h1 | ⟨y, hy, _, h1⟩)
    · simp at h1
    · exact part_sub h hA hy q hq h1
  · intro hb
    have hu : (Mo.zero.setI q 3).nn := nn_get.2 fun j _ => by rw [get_set hq, zero_get]; split <;> omega
    obtain ⟨y, hy, hle⟩ := (h.sem _ hu).2 fun b hbA => by
      have h1 := hbx b hbA q
      refine ⟨q, hq, ?_, by rw [get_set hq, if_pos rfl]; exact h1.2.1⟩
      have : (supN b).testBit q = true := by rw [hA b hbA]; exact hb
      rw [supN_bit b hq] at this; simpa using this
    obtain ⟨b, hbA⟩ := List.exists_mem_of_ne_nil A hne
    obtain ⟨j, hj, h0, h1⟩ := (h.sem y (h.nn y hy)).1 ⟨y, hy, le_refl'⟩ b hbA
    have hz : ∀ i, i < 8 → i ≠ q → y.get i = 0 := fun i hi hne => by
      have h2 := le_get.1 hle i hi
      rw [get_set hq, if_neg hne, zero_get] at h2
      have := nn_get.1 (h.nn y hy) i hi
      omega
    have ejq : j = q := by
      apply Classical.byContradiction
      intro e
      have := hz j hj e; omega
    subst ejq
    have hsy : supN y = 2 ^ j := set_ext (supN_lt y) (by have : 2 ^ j < 2 ^ 8 := Nat.pow_lt_pow_right (by omega) hj; omega) fun i hi => by
      rw [supN_bit y hi, decide_eq_true_eq, Nat.testBit_two_pow, decide_eq_true_eq]
      by_cases e : i = j
      · subst e; exact ⟨fun _ => rfl, fun _ => by omega⟩
      · rw [hz i hi e]; exact ⟨fun h => by omega, fun h => absurd h.symm e⟩
    exact .inr ⟨y, hy, by rw [hsy]; exact ones_pow j hj, by rw [hsy, Nat.testBit_two_pow]; simp⟩
def grpL (P : List Mo) (s : Int) : List Mo := P.filter fun a => decide (((supN a : Nat) : Int) = s)
theorem grp_mem {P : List Mo} {s : Int} {a : Mo} : a ∈ grpL P s ↔ a ∈ P ∧ ((supN a : Nat) : Int) = s := by simp [grpL]
theorem primary_law {n : Nat} {L P out M : List Mo} {S : List Int} (hL : ∀ m ∈ L, Box n m) (hi : Irr L P) (hs : Sets P S) (ho : Mg (S.flatMap (grpL P)) out) (hM : IsMin L M) : out = M := by
  refine min_unique ho.min hM.self ho.nn (fun x hx => (hL x (hM.sub hx)).nn) fun t ht => ?_
  rw [ho.sem t ht, min_sem hM hL t, ← hi.sem t ht]
  constructor
  · intro h b hb
    exact h b (List.mem_flatMap.2 ⟨(supN b : Nat), (hs.mem _).2 ⟨b, hb, rfl⟩, grp_mem.2 ⟨hb, rfl⟩⟩)
  · intro h b hb
    obtain ⟨s, _, h2⟩ := List.mem_flatMap.1 hb
    exact h b (grp_mem.1 h2).1
section
variable {s : List Jtm} {k : KF} {Q : AV → Heap → Prop}
attribute [local simp] guardI_u
theorem l26_1 {x : Nat} (hx : x < 256) {H : Heap} : ∀ (m j : Nat) (σ : Sig), 8 - j = m → j ≤ 8 → σ 0 = .int .u8 (x : Nat) → σ 3 = .int .i64 (onesTo x j : Nat) → σ 4 = .int .i64 (j : Nat) →
    (∀ σ', σ' 3 = .int .i64 (onesN x : Nat) → Res (ai (callI tab) s k .nrm σ' H) Q) →
    Res (li (callI tab) L26_1 (.inBlock 0 :: s) k σ H) Q := by
  intro m
  induction m with
  | zero =>
    intro j σ hm hj h0 h3 h4 hQ
    have : j = 8 := by omega
    subst this
    rw [show onesTo x 8 = onesN x from rfl] at h3
    obtain ⟨il, hil⟩ : ∃ x, x = Jtm.inLoop L26_1 := ⟨_, rfl⟩; rw [li_eq' il hil]
    simp -implicitDefEqProofs (disch := first | omega | with_unfolding_all exact eqR (Eq.refl _)) [nums, -getElem!_pos, -Int.natCast_add, -Int.natCast_mul, -Int.natCast_ediv, L26_1, S26_0, h0, h3, h4]
    subst hil
    try simp -implicitDefEqProofs (disch := first | omega | with_unfolding_all exact eqR (Eq.refl _)) [nums, -getElem!_pos, -Int.natCast_add, -Int.natCast_mul, -Int.natCast_ediv]
    refine hQ _ ?_
    simp [h3]
  | succ m ih =>
    intro j σ hm hj h0 h3 h4 hQ
    have hj8 : j < 8 := by omega
    have hc : ((j : Nat) : Int) < 8 := by omega
    have hbe := bit_eq hx hj8
    have hle := onesTo_le (s := x) j
    have h2 : x / 2 ^ j % 2 < 2 := Nat.mod_lt _ (by omega)
    have hst : onesTo x j + x / 2 ^ j % 2 = onesTo x (j + 1) := rfl
    have ih' := ih (j + 1)
    rw [← hst] at ih'
    generalize x / 2 ^ j % 2 = bt at hbe h2 ih'
    generalize onesTo x j = o at h3 hle ih'
    obtain ⟨il, hil⟩ : ∃ x, x = Jtm.inLoop L26_1 := ⟨_, rfl⟩; rw [li_eq' il hil]
    simp -implicitDefEqProofs (disch := first | omega | with_unfolding_all exact eqR (Eq.refl _)) [nums, -getElem!_pos, -Int.natCast_add, -Int.natCast_mul, -Int.natCast_ediv, L26_1, S26_0, h0, h3, h4, hc, hbe]
    subst hil
    try simp -implicitDefEqProofs (disch := first | omega | with_unfolding_all exact eqR (Eq.refl _)) [nums, -getElem!_pos, -Int.natCast_add, -Int.natCast_mul, -Int.natCast_ediv]
    refine ih' _ (by omega) (by omega) ?_ ?_ ?_ hQ
    all_goals simp [h0]
theorem call_26 {x : Nat} (hx : x < 256) {H : Heap} : callI tab 26 [.int .u8 (x : Nat)] H = some (.int .i64 (onesN x : Nat), H) := by
  have : Res (callI tab 26 [.int .u8 (x : Nat)] H) fun e H' => e = .int .i64 (onesN x : Nat) ∧ H' = H := by
    refine .hide fun Q hQ => .enter tab_26 (by simp [AF26]) (.inr (by simp)) ?_
    simp -implicitDefEqProofs (disch := first | omega | with_unfolding_all exact eqR (Eq.refl _)) [nums, -getElem!_pos, -Int.natCast_add, -Int.natCast_mul, -Int.natCast_ediv, AF26]
    refine l26_1 hx _ 0 _ rfl (by omega) ?_ ?_ ?_ fun σ' q3 => ?_
    any_goals (first | (simp [onesTo]; done) | skip)
    simp -implicitDefEqProofs (disch := first | omega | with_unfolding_all exact eqR (Eq.refl _)) [nums, -getElem!_pos, -Int.natCast_add, -Int.natCast_mul, -Int.natCast_ediv, S26_2, q3]
    exact .mk (hQ _ _ ⟨rfl, rfl⟩)
  obtain ⟨e, H', h, rfl, rfl⟩ := this
  exact h
theorem mp_cell {v : AV} {l : List PV} (hv : ML tP v l) (H : Heap) {i : Nat} (hi : i < l.length) : iaddrA none 2 v (.int .i64 i) = some (.pv (tP.row l) (i * 2)) ∧ part false 1 (tP.row l) (i * 2) = some (.int .u8 l[i].s) ∧ part false 1 (tP.row l) (i * 2 + 1) = some l[i].v := by
  rcases hv with ⟨rfl, rfl⟩ | ⟨ex, rfl⟩
  · exact nomatch hi
  · have h1 : part true 2 (tP.row l) (i * 2) = some (.agg [.int .u8 l[i].s, l[i].v]) := tP.row_part l i hi
    simp only [part, if_true] at h1
    split at h1
    · simp only [Option.some.injEq, AV.agg.injEq] at h1
      refine ⟨?_, ?_, ?_⟩
      · simp only [iaddrA]
        rw [if_pos ⟨by omega, by omega, row_ne tP hi⟩]
        simp
      · rw [part_false]
        have h2 : (((tP.row l).drop (i * 2)).take 2)[0]? = some (.int .u8 l[i].s) := by rw [h1]; rfl
        rw [List.getElem?_take, if_pos (by omega), List.getElem?_drop] at h2
        exact h2
      · rw [part_false]
        have h2 : (((tP.row l).drop (i * 2)).take 2)[1]? = some l[i].v := by rw [h1]; rfl
        rw [List.getElem?_take, if_pos (by omega), List.getElem?_drop] at h2
        exact h2
    · cases h1
theorem l17_3 {vg vP : AV} {g : List Mo} {parts : List PV} (hv : ML tM vg g) (hP : ML tP vP parts) (hl : g.length < 2 ^ 20) {i x : Nat} (hi : i < parts.length) (hx : x < 256) (hxe : parts[i].s = ((x : Nat) : Int)) (hsub : ∀ y ∈ g, andNotK .u8 (supN y : Nat) (x : Nat) = 0) {H : Heap} {x3 x4 x7 x9 : AV} : ∀ (m j : Nat) (σ : Sig) (a : Nat), g.length - j = m → j ≤ g.length → σ 3 = x3 → σ 4 = x4 → σ 5 = vP → σ 7 = x7 → σ 9 = x9 → σ 10 = .int .i64 (i : Nat) → σ 11 = vg → σ 12 = .int .u8 (a : Nat) → σ 13 = .int .i64 (j : Nat) → a < 256 →
    (∀ σ', σ' 3 = x3 → σ' 4 = x4 → σ' 5 = vP → σ' 7 = x7 → σ' 9 = x9 → σ' 10 = .int .i64 (i : Nat) → σ' 11 = vg → σ' 12 = .int .u8 (powS (g.drop j) a : Nat) → Res (ai (callI tab) s k .nrm σ' H) Q) →
    Res (li (callI tab) L17_3 (.inBlock 2 :: s) k σ H) Q := by
  intro m
  have hln := (hv.rd H).1
  obtain ⟨c1, c2, c3⟩ := mp_cell hP H hi
  rw [hxe] at c2
  induction m with
  | zero =>
    intro j σ a hm hj h3 h4 h5 h7 h9 h10 h11 h12 h13 ha hQ
    rw [List.drop_of_length_le (by omega)] at hQ
    obtain ⟨il, hil⟩ : ∃ x, x = Jtm.inLoop L17_3 := ⟨_, rfl⟩; rw [li_eq' il hil]
    simp -implicitDefEqProofs (disch := first | omega | with_unfolding_all exact eqR (Eq.refl _)) [nums, -getElem!_pos, -Int.natCast_add, -Int.natCast_mul, -Int.natCast_ediv, L17_3, h3, h4, h5, h7, h9, h10, h11, h12, h13, hln]
    subst hil
    try simp -implicitDefEqProofs (disch := first | omega | with_unfolding_all exact eqR (Eq.refl _)) [nums, -getElem!_pos, -Int.natCast_add, -Int.natCast_mul, -Int.natCast_ediv]
    refine hQ _ ?_ ?_ ?_ ?_ ?_ ?_ ?_ ?_ <;> simp [h3, h4, h5, h7, h9, h10, h11, h12, powS]
  | succ m ih =>
    intro j σ a hm hj h3 h4 h5 h7 h9 h10 h11 h12 h13 ha hQ
    have hjl : j < g.length := by omega
    obtain ⟨p, e1, e2⟩ := ml_at hv H hjl
    have hor := or_byte ha (supN_lt g[j])
    have hlt : a ||| supN g[j] < 256 := Nat.or_lt_two_pow (n := 8) ha (supN_lt _)
    have han := hsub _ (List.getElem_mem hjl)
    have c26 := fun H => call_26 (supN_lt g[j]) (H := H)
    rw [List.drop_eq_getElem_cons hjl] at hQ
    simp only [powS, List.foldl_cons] at hQ
    by_cases h1 : onesN (supN g[j]) = 1
    · rw [if_pos h1] at hQ
      rw [h1] at c26
      generalize a ||| supN g[j] = a2 at *
      obtain ⟨il, hil⟩ : ∃ x, x = Jtm.inLoop L17_3 := ⟨_, rfl⟩; rw [li_eq' il hil]
      simp -implicitDefEqProofs (disch := first | omega | with_unfolding_all exact eqR (Eq.refl _)) [nums, -getElem!_pos, -Int.natCast_add, -Int.natCast_mul, -Int.natCast_ediv, L17_3, S17_2, h3, h4, h5, h7, h9, h10, h11, h12, h13, hln, e1, e2, c1, c2, call_44', han, S17_0, c26, hor, S17_1]
      subst hil
      try simp -implicitDefEqProofs (disch := first | omega | with_unfolding_all exact eqR (Eq.refl _)) [nums, -getElem!_pos, -Int.natCast_add, -Int.natCast_mul, -Int.natCast_ediv]
      refine ih (j + 1) _ a2 (by omega) (by omega) ?_ ?_ ?_ ?_ ?_ ?_ ?_ ?_ ?_ hlt hQ
      all_goals simp [h3, h4, h5, h7, h9, h10, h11]
    · rw [if_neg h1] at hQ
      have hb1 : (((onesN (supN g[j]) : Nat) : Int) == 1) = false := by simp; omega
      obtain ⟨il, hil⟩ : ∃ x, x = Jtm.inLoop L17_3 := ⟨_, rfl⟩; rw [li_eq' il hil]
      simp -implicitDefEqProofs (disch := first | omega | with_unfolding_all exact eqR (Eq.refl _)) [nums, -getElem!_pos, -Int.natCast_add, -Int.natCast_mul, -Int.natCast_ediv, L17_3, S17_2, h3, h4, h5, h7, h9, h10, h11, h12, h13, hln, e1, e2, c1, c2, call_44', han, S17_0, c26, hb1, S17_1]
      subst hil
      try simp -implicitDefEqProofs (disch := first | omega | with_unfolding_all exact eqR (Eq.refl _)) [nums, -getElem!_pos, -Int.natCast_add, -Int.natCast_mul, -Int.natCast_ediv]
      refine ih (j + 1) _ a (by omega) (by omega) ?_ ?_ ?_ ?_ ?_ ?_ ?_ ?_ ?_ ha hQ
      all_goals simp [h3, h4, h5, h7, h9, h10, h11, h12]
theorem l17_8 {n : Nat} (hn4 : n ≤ 4) {vP vS x3 x4 : AV} {P : List Mo} {S : List Int} {parts : List PV} (hP : ML tP vP parts) (hS : ML tB vS S) (hs : Sets P S) (hbx : ∀ a ∈ P, Box n a) (hmap : parts.map PV.s = S) (hall : ∀ x ∈ parts, Mg (grpL P x.s) x.l) (hl : S.length < 2 ^ 20) {H : Heap} : ∀ (m j : Nat) (σ : Sig) (w : AV) (r : List Mo), parts.length - j = m → j ≤ parts.length → σ 3 = x3 → σ 4 = x4 → σ 5 = vP → σ 7 = vS → σ 9 = w → σ 10 = .int .i64 (j : Nat) → ML tM w r → Mg ((S.take j).flatMap (grpL P)) r →
    (∀ σ' w' r', σ' 3 = x3 → σ' 4 = x4 → σ' 9 = w' → ML tM w' r' → Mg (S.flatMap (grpL P)) r' → Res (ai (callI tab) s k .nrm σ' H) Q) →
    Res (li (callI tab) L17_8 (.inBlock 0 :: s) k σ H) Q := by
  intro m
  have hln := (hP.rd H).1
  have hlen : parts.length = S.length := by rw [← hmap, List.length_map]
  induction m with
  | zero =>
    intro j σ w r hm hj h3 h4 h5 h7 h9 h10 hw hmg hQ
    rw [List.take_of_length_le (by omega)] at hmg
    obtain ⟨il, hil⟩ : ∃ x, x = Jtm.inLoop L17_8 := ⟨_, rfl⟩; rw [li_eq' il hil]
    simp -implicitDefEqProofs (disch := first | omega | with_unfolding_all exact eqR (Eq.refl _)) [nums, -getElem!_pos, -Int.natCast_add, -Int.natCast_mul, -Int.natCast_ediv, L17_8, h3, h4, h5, h7, h9, h10, hln]
    subst hil
    try simp -implicitDefEqProofs (disch := first | omega | with_unfolding_all exact eqR (Eq.refl _)) [nums, -getElem!_pos, -Int.natCast_add, -Int.natCast_mul, -Int.natCast_ediv]
    refine hQ _ w r ?_ ?_ ?_ hw hmg <;> simp [h3, h4, h9]
  | succ m ih =>
    intro j σ w r hm hj h3 h4 h5 h7 h9 h10 hw hmg hQ
    have hjl : j < parts.length := by omega
    have hjS : j < S.length := by omega
    obtain ⟨c1, c2, c3⟩ := mp_cell hP H hjl
    obtain ⟨p, e1, e2⟩ := mb_at hS H hjS
    obtain ⟨x, hx, hxe⟩ := hs.nat (List.getElem_mem hjS)
    have hps : parts[j].s = ((x : Nat) : Int) := by
      have : (parts.map PV.s)[j]? = S[j]? := by rw [hmap]
      rw [List.getElem?_map, List.getElem?_eq_getElem hjl, List.getElem?_eq_getElem hjS] at this
      simp only [Option.map_some, Option.some.injEq] at this
      rw [this, hxe]
    rw [hps] at c2
    rw [hxe] at e2
    have hg := hall _ (List.getElem_mem hjl)
    rw [hps] at hg
    have hml := (parts[j]).h
    generalize hgl : (parts[j]).l = g at *
    generalize hgv : (parts[j]).v = vg at *
    have hA : ∀ a ∈ grpL P (x : Nat), supN a = x := fun a ha => by have := (grp_mem.1 ha).2; omega
    have hAb : ∀ a ∈ grpL P (x : Nat), Box n a := fun a ha => hbx a (grp_mem.1 ha).1
    have hne : grpL P (x : Nat) ≠ [] := by
      obtain ⟨a, ha, e⟩ := (hs.mem _).1 (List.getElem_mem hjS)
      exact List.ne_nil_of_mem (grp_mem.2 ⟨ha, by rw [e, hxe]⟩)
    have hsub : ∀ y ∈ g, andNotK .u8 (supN y : Nat) (x : Nat) = 0 := fun y hy => (sub_iff (supN_lt y) hx).1.2 (part_sub hg hA hy)
    have hpow := part_pow hg hA hAb hne hx
    have hlg := (hg.mt hAb).len hn4
    have hbS : ∀ a ∈ (S.take j).flatMap (grpL P), Box n a := fun a ha => by
      obtain ⟨y, _, h2⟩ := List.mem_flatMap.1 ha
      exact hbx a (grp_mem.1 h2).1
    have hlr := (hmg.mt hbS).len hn4
    obtain ⟨e5, H5, hc5, hH5, g', hg', hmin⟩ := call_55 (H := H) hml (by omega)
    subst hH5
    have heq : g = g' := hg.min.congr hmin fun _ => Iff.rfl
    subst heq
    have c51 := call_51 (H := H5) hml hg' (by omega) (by omega)
    rw [decide_eq_true rfl] at c51
    have hxx : (((x : Nat) : Int) == ((x : Nat) : Int)) = true := by simp
    obtain ⟨il, hil⟩ : ∃ x, x = Jtm.inLoop L17_8 := ⟨_, rfl⟩; rw [li_eq' il hil]
    simp -implicitDefEqProofs (disch := first | omega | with_unfolding_all exact eqR (Eq.refl _)) [nums, -getElem!_pos, -Int.natCast_add, -Int.natCast_mul, -Int.natCast_ediv, L17_8, S17_7, h3, h4, h5, h7, h9, h10, hln, c1, c3]
    refine l17_3 (g := g) hml hP (by omega) hjl hx hps hsub (x3 := x3) (x4 := x4) (x7 := vS) (x9 := w) _ 0 _ 0 rfl (by omega) ?_ ?_ ?_ ?_ ?_ ?_ ?_ ?_ ?_ (by omega) fun σ1 g3 g4 g5 g7 g9 g10 g11 g12 => ?_
    any_goals (first | (simp [h3, h4, h5, h7, h9, h10]; done) | skip)
    rw [List.drop_zero, hpow] at g12
    simp -implicitDefEqProofs (disch := first | omega | with_unfolding_all exact eqR (Eq.refl _)) [nums, -getElem!_pos, -Int.natCast_add, -Int.natCast_mul, -Int.natCast_ediv, S17_5, g3, g4, g5, g7, g9, g10, g11, g12, c1, c2, e1, e2, hxx, hc5, c51, S17_4]
    refine .call (call_59 hw hml (by omega) (by omega) (by have := Nat.mul_le_mul hlr hlg; omega)) fun e4 H3 ⟨hH, r', hr', hmin'⟩ => ?_
    subst hH
    simp -implicitDefEqProofs (disch := first | omega | with_unfolding_all exact eqR (Eq.refl _)) [nums, -getElem!_pos, -Int.natCast_add, -Int.natCast_mul, -Int.natCast_ediv, S17_6, g3, g4, g5, g7, g10]
    subst hil
    try simp -implicitDefEqProofs (disch := first | omega | with_unfolding_all exact eqR (Eq.refl _)) [nums, -getElem!_pos, -Int.natCast_add, -Int.natCast_mul, -Int.natCast_ediv]
    have htk : S.take (j + 1) = S.take j ++ [S[j]] := by rw [List.take_succ_eq_append_getElem hjS]
    refine ih (j + 1) _ e4 r' (by omega) (by omega) ?_ ?_ ?_ ?_ ?_ ?_ hr' (by rw [htk, List.flatMap_append, hxe]; simp only [List.flatMap_cons, List.flatMap_nil, List.append_nil]; exact hmg.meet hg hmin') hQ
    all_goals simp [g3, g4, g5, g7]
theorem law17 {v : AV} {l : List Mo} {n : Nat} (hv : ML tQ v l) (hn : n < 256) (hby : ∀ m ∈ l, Bytes m) (hll : l.length < 2 ^ 63) : Res (callI tab 17 [inp v n] Heap.empty) fun e _ => e = .bool true := by
  have hf := inp_flat (n := n) hv
  have hz : frz 0 6 Heap.empty (inp v n) = some (inp v n, Heap.empty) := inp_frz (n := n) hv 0 4 Heap.empty
  refine .hide fun Q hQ => .enter tab_17 (by simp [AF17]) (.inr (by simp [hz])) ?_
  have hs : callI tab 18 [] (Heap.empty.begin.new (.cells [v, .int .u8 n] none)) = some (.bool true, Heap.empty.begin.new (.cells [v, .int .u8 n] none)) := callI_of (san21_1 _)
  have hin : AV.agg [v, .int .u8 n] = inp v n := rfl
  have c24 := fun H => call_24 hv hn (H := H)
  have hc5 : n % 5 ≤ 4 := by omega
  have hf0 : fillA Mo.zero.cells [] = some Mo.zero.cells := rfl
  have hag : AV.agg Mo.zero.cells = mono Mo.zero := rfl
  generalize hc : n % 5 = c at *
  simp -implicitDefEqProofs (disch := first | omega | with_unfolding_all exact eqR (Eq.refl _)) [nums, -getElem!_pos, -Int.natCast_add, -Int.natCast_mul, -Int.natCast_ediv, AF17, hf, hs, S17_11, ld20, hin]
  refine .call (call_23 hv hn hby hll) fun e H1 ⟨hH, L, hL, l1, bL⟩ => ?_
  subst hH
  rw [hc] at bL
  have hB := good_len hc5 bL
  have h19 : ∀ H, Res (callI tab 19 [e, .int .i64 (c : Nat)] H) fun e H' => H' = H ∧ ∃ w P, e = .tup [w, .int .i64 0] ∧ ML tM w P ∧ Irr L P := fun H => call_19 (n := c) hL (by omega) (fun m hm => ⟨(bL m hm).valid, fun q _ h => by rw [(bL m hm q).2.2 h]; omega⟩) (by omega) hB
  have hX : ∀ P, Irr L P → P.length ≤ 1000 := fun P h => hB P h.good
  have hBg : ∀ P, Irr L P → ∀ S' r, (∀ a ∈ S', a ∈ P) → Mg S' r → r.length ≤ 1000 := fun P h S' r hS hm => by
    have := (hm.mt fun a ha => h.good.box bL a (hS a ha)).len hc5; omega
  simp -implicitDefEqProofs (disch := first | omega | with_unfolding_all exact eqR (Eq.refl _)) [nums, -getElem!_pos, -Int.natCast_add, -Int.natCast_mul, -Int.natCast_ediv, ld20, hin, c24]
  refine .call (call_22 hL h19 hX hBg) fun e2 H2 ⟨hH, P, S, w, parts, hirr, he, hmw, hsets, hmap, hall⟩ => ?_
  subst hH he
  simp -implicitDefEqProofs (disch := first | omega | with_unfolding_all exact eqR (Eq.refl _)) [nums, -getElem!_pos, -Int.natCast_add, -Int.natCast_mul, -Int.natCast_ediv, ld20, hin, c24]
  refine .call (call_20 hL h19 hX) fun e3 H3 ⟨hH, P', S', w', hirr', he, hmw', hsets'⟩ => ?_
  subst hH he
  have hPP := irr_unique bL hirr' hirr
  subst hPP
  have hSS := sets_unique hsets' hsets
  subst hSS
  have hlP := hX _ hirr
  have hlen : parts.length = S'.length := by rw [← hmap, List.length_map]
  have hlS : S'.length ≤ 1000 := by
    have h1 := List.nodup_iff_pairwise_ne.2 (hsets.asc.imp fun h => by omega)
    have : S'.length ≤ (P'.map fun a => ((supN a : Nat) : Int)).length := nodup_lenI h1 fun s h => by
      obtain ⟨a, ha, e⟩ := (hsets.mem s).1 h
      exact List.mem_map.2 ⟨a, ha, e⟩
    rw [List.length_map] at this
    omega
  have hl1 := fun H => (hmw.rd H).1
  have hl2 := fun H => (hmw'.rd H).1
  rw [hlen] at hl1
  have hss : (((S'.length : Nat) : Int) == ((S'.length : Nat) : Int)) = true := by simp
  obtain ⟨eM, HM, hcM, hHM, M, hM, mM⟩ := call_55 (H := Heap.empty.begin.new (.cells [v, .int .u8 n] none)) hL (by omega)
  subst hHM
  have lM := mM.len
  simp -implicitDefEqProofs (disch := first | omega | with_unfolding_all exact eqR (Eq.refl _)) [nums, -getElem!_pos, -Int.natCast_add, -Int.natCast_mul, -Int.natCast_ediv, hl1, hl2, hss, S17_10, hf0, hag, bslR_mono]
  refine l17_8 hc5 hmw hmw' hsets (hirr.good.box bL) hmap hall (by omega) (x3 := .bool true) (x4 := e) _ 0 _ (.vec 1 true Mo.zero.cells) [Mo.zero] rfl (by omega) ?_ ?_ ?_ ?_ ?_ ?_ (.inr ⟨true, rfl⟩) (by simpa using Mg.start) fun σ1 w1 r1 g3 g4 g9 hr1 hmg => ?_
  any_goals (first | (simp; done) | skip)
  have heq := primary_law bL hirr hsets hmg mM
  have c51 := call_51 (H := Heap.empty.begin.new (.cells [v, .int .u8 n] none)) hr1 hM (by rw [heq]; omega) (by omega)
  rw [decide_eq_true heq] at c51
  simp -implicitDefEqProofs (disch := first | omega | with_unfolding_all exact eqR (Eq.refl _)) [nums, -getElem!_pos, -Int.natCast_add, -Int.natCast_mul, -Int.natCast_ediv, S17_9, g3, g4, g9, hcM, c51]
  exact .mk (hQ _ _ rfl)
end
end Go.Mach.Ytl
