/-
  Leaving out what stands twice in a row; the minimal elements of a list. By an AI agent.
-/
import Derived.Test.YtlbihaiejbpjoaaNl
set_option linter.unusedSimpArgs false
set_option linter.unusedVariables false
set_option maxRecDepth 100000
namespace Go.Mach.Ytl
open Go.Mach
section
variable {s : List Jtm} {k : KF} {Q : AV → Heap → Prop}

/-- The first j elements without those that are equal to the one ahead. -/
def ck (d : Array Mo) : Nat → List Mo
  | 0 => []
  | j + 1 => ck d j ++ if j = 0 ∨ d[j]! ≠ d[j - 1]! then [d[j]!] else []
theorem ck_len (d : Array Mo) (j : Nat) : (ck d j).length ≤ j := by
  induction j with
  | zero => simp [ck]
  | succ j ih => rw [ck, List.length_append]; split <;> simp <;> omega
structure Cp (d0 : Array Mo) (q k : Nat) (d : Array Mo) : Prop where
  size : d.size = d0.size
  take : d.toList.take k = ck d0 q
  len : k = (ck d0 q).length
  lt : k < q
  rest : ∀ t, q ≤ t + 1 → d[t]! = d0[t]!
theorem take_snoc {d : Array Mo} {i : Nat} (h : i < d.size) : d.toList.take (i + 1) = d.toList.take i ++ [d[i]!] := by
  rw [List.take_succ_eq_append_getElem (by simpa using h)]
  simp [h]
theorem take_set {d : Array Mo} {i : Nat} {a : Mo} (h : i < d.size) : (d.setIfInBounds i a).toList.take (i + 1) = d.toList.take i ++ [a] := by
  rw [take_snoc (by simpa using h), Array.toList_setIfInBounds, List.take_set, List.set_eq_of_length_le (List.length_take_le _ _)]
  simp [h]
theorem Cp.drop {d0 d : Array Mo} {q k : Nat} (h : Cp d0 q k d) (hq : 0 < q) (he : d0[q]! = d0[q - 1]!) : Cp d0 (q + 1) k d where
  size := h.size
  take := by rw [ck, if_neg (by simp [he]; omega), List.append_nil]; exact h.take
  len := by rw [ck, if_neg (by simp [he]; omega), List.append_nil]; exact h.len
  lt := by have := h.lt; omega
  rest t ht := h.rest t (by omega)
theorem Cp.keep {d0 d : Array Mo} {q k : Nat} (h : Cp d0 q k d) (hs : q < d0.size) (he : d0[q]! ≠ d0[q - 1]!) : Cp d0 (q + 1) (k + 1) (d.setIfInBounds k d0[q]!) where
  size := by simp [h.size]
  take := by
    have := h.lt; have := h.size
    rw [ck, if_pos (.inr he), take_set (by omega), h.take]
  len := by rw [ck, if_pos (.inr he), List.length_append, ← h.len]; rfl
  lt := by have := h.lt; omega
  rest t ht := by
    have := h.lt
    rw [← h.rest t (by omega)]
    simp only [Array.getElem!_eq_getD, Array.getD_eq_getD_getElem?]
    rw [Array.getElem?_setIfInBounds_ne (by omega)]

theorem l92_2 {id n lo k0 : Nat} {ex : Bool} {d0 : Array Mo} (hn : n ≤ lo) (hlo : lo ≤ d0.size) (hs : d0.size < 2 ^ 40) : ∀ (m k2 i : Nat) (σ : Sig) (H : Heap) (d : Array Mo), n - k0 - k2 = m →
    σ 0 = .sl id 0 n lo ex 8 → σ 3 = .int .i64 (i : Nat) → σ 4 = .sl id (k0 * 8) (n - k0) (lo - k0) ex 8 → σ 5 = .int .i64 (k2 : Nat) → Cp d0 (k0 + k2) i d → 1 ≤ k2 → k0 + k2 ≤ n → id < H.next → H.obj id = .cells (tM.arr d) none →
    (∀ σ' H' d' i', σ' 0 = .sl id 0 n lo ex 8 → σ' 3 = .int .i64 (i' : Nat) → Cp d0 n i' d' → Wr H H' id (.cells (tM.arr d') none) → Res (ai (callI tab) s k .nrm σ' H') Q) →
    Res (li (callI tab) L92_2 (.inBlock 2 :: s) k σ H) Q := by
  intro m
  induction m with
  | zero =>
    intro k2 i σ H d hm h0 h3 h4 h5 hC h1 hk hid hd hQ
    have : k0 + k2 = n := by omega
    rw [this] at hC
    obtain ⟨il, hil⟩ : ∃ x, x = Jtm.inLoop L92_2 := ⟨_, rfl⟩; rw [li_eq' il hil]
    simp -implicitDefEqProofs (disch := first | omega | with_unfolding_all exact eqR (Eq.refl _)) [nums, -getElem!_pos, -Int.natCast_add, -Int.natCast_mul, -Int.natCast_ediv, L92_2, S92_0, S92_1, h0, h3, h4, h5]
    subst hil
    try simp -implicitDefEqProofs (disch := first | omega | with_unfolding_all exact eqR (Eq.refl _)) [nums, -getElem!_pos, -Int.natCast_add, -Int.natCast_mul, -Int.natCast_ediv]
    refine hQ _ _ d i ?_ ?_ hC (.refl hid hd) <;> simp [h0, h3]
  | succ m ih =>
    intro k2 i σ H d hm h0 h3 h4 h5 hC h1 hk hid hd hQ
    have hsz := hC.size
    have hlt := hC.lt
    have e1 := hC.rest (k0 + k2) (by omega)
    have e2 := hC.rest (k0 + (k2 - 1)) (by omega)
    have e3 : k0 + k2 - 1 = k0 + (k2 - 1) := by omega
    by_cases he : d0[k0 + k2]! = d0[k0 + (k2 - 1)]!
    · obtain ⟨il, hil⟩ : ∃ x, x = Jtm.inLoop L92_2 := ⟨_, rfl⟩; rw [li_eq' il hil]
      simp -implicitDefEqProofs (disch := first | omega | with_unfolding_all exact eqR (Eq.refl _)) [nums, -getElem!_pos, -Int.natCast_add, -Int.natCast_mul, -Int.natCast_ediv, L92_2, S92_0, S92_1, h0, h3, h4, h5, hd, ← Nat.add_mul, loadM, storeM, e1, e2, he]
      subst hil
      try simp -implicitDefEqProofs (disch := first | omega | with_unfolding_all exact eqR (Eq.refl _)) [nums, -getElem!_pos, -Int.natCast_add, -Int.natCast_mul, -Int.natCast_ediv]
      refine ih (k2 + 1) i _ _ d (by omega) ?_ ?_ ?_ ?_ (by rw [← Nat.add_assoc]; exact hC.drop (by omega) (by rw [e3]; exact he)) (by omega) (by omega) hid hd hQ
      all_goals simp [h0, h3, h4, h5]
    · obtain ⟨il, hil⟩ : ∃ x, x = Jtm.inLoop L92_2 := ⟨_, rfl⟩; rw [li_eq' il hil]
      simp -implicitDefEqProofs (disch := first | omega | with_unfolding_all exact eqR (Eq.refl _)) [nums, -getElem!_pos, -Int.natCast_add, -Int.natCast_mul, -Int.natCast_ediv, L92_2, S92_0, S92_1, h0, h3, h4, h5, hd, ← Nat.add_mul, loadM, storeM, e1, e2, he]
      subst hil
      try simp -implicitDefEqProofs (disch := first | omega | with_unfolding_all exact eqR (Eq.refl _)) [nums, -getElem!_pos, -Int.natCast_add, -Int.natCast_mul, -Int.natCast_ediv]
      refine ih (k2 + 1) (i + 1) _ _ (d.setIfInBounds i d0[k0 + k2]!) (by omega) ?_ ?_ ?_ ?_ (by rw [← Nat.add_assoc]; exact hC.keep (by omega) (by rw [e3]; exact he)) (by omega) (by omega) (by exact hid) (by simp) fun σ' H' d' i' q0 q3 hC' hw => hQ σ' H' d' i' q0 q3 hC' (.trans (.set hid) hw)
      all_goals simp [h0, h3, h4, h5]

theorem l92_7 {id n lo : Nat} {ex : Bool} {d : Array Mo} {H0 H : Heap} (hn : n ≤ lo) (hlo : lo ≤ d.size) (hs : d.size < 2 ^ 40) (hid : id < H.next) (hd : H.obj id = .cells (tM.arr d) none)
    (hQ : ∀ d' k H', d'.size = d.size → k ≤ n → d'.toList.take k = ck d n → Wr H H' id (.cells (tM.arr d') none) → Res (some (wrapA H0 (.sl id 0 k lo ex 8) H')) Q) : ∀ (m i : Nat) (σ : Sig), n - i = m → σ 0 = .sl id 0 n lo ex 8 → σ 3 = .int .i64 (i : Nat) → 1 ≤ i → i ≤ n → ck d i = d.toList.take i →
    Res (li (callI tab) L92_7 [.inBlock 0, .code S92_8] (fink [.tmp 2] false H0) σ H) Q := by
  intro m
  induction m with
  | zero =>
    intro i σ hm h0 h3 h1 hi hc
    have : i = n := by omega
    subst this
    obtain ⟨il, hil⟩ : ∃ x, x = Jtm.inLoop L92_7 := ⟨_, rfl⟩; rw [li_eq' il hil]
    simp -implicitDefEqProofs (disch := first | omega | with_unfolding_all exact eqR (Eq.refl _)) [nums, -getElem!_pos, -Int.natCast_add, -Int.natCast_mul, -Int.natCast_ediv, L92_7, S92_6, h0, h3]
    subst hil
    try simp -implicitDefEqProofs (disch := first | omega | with_unfolding_all exact eqR (Eq.refl _)) [nums, -getElem!_pos, -Int.natCast_add, -Int.natCast_mul, -Int.natCast_ediv, S92_8, h0]
    exact hQ d i H rfl (Nat.le_refl _) hc.symm (.refl hid hd)
  | succ m ih =>
    intro i σ hm h0 h3 h1 hi hc
    by_cases he : d[i]! = d[i - 1]!
    · have hlen : (ck d i).length = i := by rw [hc]; simp; omega
      have hC : Cp d (i + 1) i d := ⟨rfl, by rw [ck, if_neg (by simp [he]; omega), List.append_nil]; exact hc.symm, by rw [ck, if_neg (by simp [he]; omega), List.append_nil, hlen], by omega, fun _ _ => rfl⟩
      obtain ⟨il, hil⟩ : ∃ x, x = Jtm.inLoop L92_7 := ⟨_, rfl⟩; rw [li_eq' il hil]
      simp -implicitDefEqProofs (disch := first | omega | with_unfolding_all exact eqR (Eq.refl _)) [nums, -getElem!_pos, -Int.natCast_add, -Int.natCast_mul, -Int.natCast_ediv, L92_7, S92_6, S92_4, h0, h3, hd, loadM, he, slc_from]
      refine l92_2 (id := id) (n := n) (lo := lo) (k0 := i) (ex := ex) (d0 := d) hn hlo hs _ 1 i _ _ d rfl ?_ ?_ ?_ ?_ hC (Nat.le_refl _) (by omega) hid hd fun σ' H' d' i' q0 q3 hC' hw => ?_
      any_goals (first | (simp [h0, h3]; done) | skip)
      have hsz := hC'.size
      have hlt := hC'.lt
      have hd' := hw.at
      have hln : (tM.arr d').length = d'.size * 8 := tM.arr_length d'
      have hclr : clrA H' 8 Mo.zero.cells (.sl id (i' * 8) (n - i') (lo - i') ex 8) = some (undefA, H'.set id (.cells (tM.arr (d'.toList.take i' ++ List.replicate (n - i') Mo.zero ++ d'.toList.drop (i' + (n - i'))).toArray) none)) := by
        rw [clr_sl (e := 8) (z := Mo.zero.cells) hd' (by omega) (by rw [hln]; omega) rfl, row_replicate']
        have := tM.row_puts d'.toList (List.replicate (n - i') Mo.zero) i' (by simp; omega)
        rw [show tM.e = 8 from rfl, List.length_replicate] at this
        have e : tM.arr d' = tM.row d'.toList := rfl
        rw [e, this]
        simp [Ty.arr, kill_none]
      simp -implicitDefEqProofs (disch := first | omega | with_unfolding_all exact eqR (Eq.refl _)) [nums, -getElem!_pos, -Int.natCast_add, -Int.natCast_mul, -Int.natCast_ediv, S92_3, q0, q3, slc_from, slc_to, hclr]
      subst hil
      try simp -implicitDefEqProofs (disch := first | omega | with_unfolding_all exact eqR (Eq.refl _)) [nums, -getElem!_pos, -Int.natCast_add, -Int.natCast_mul, -Int.natCast_ediv]
      refine hQ _ i' _ ?_ (by omega) ?_ (hw.trans (.set (by rw [hw.nxt]; exact hid)))
      · simp; omega
      · rw [← hC'.take]
        show List.take i' (d'.toList.take i' ++ (List.replicate (n - i') Mo.zero ++ d'.toList.drop n)) = _
        rw [List.take_append_of_le_length (by simp; omega), List.take_take, Nat.min_self]
    · obtain ⟨il, hil⟩ : ∃ x, x = Jtm.inLoop L92_7 := ⟨_, rfl⟩; rw [li_eq' il hil]
      simp -implicitDefEqProofs (disch := first | omega | with_unfolding_all exact eqR (Eq.refl _)) [nums, -getElem!_pos, -Int.natCast_add, -Int.natCast_mul, -Int.natCast_ediv, L92_7, S92_6, S92_5, h0, h3, hd, loadM, he]
      subst hil
      try simp -implicitDefEqProofs (disch := first | omega | with_unfolding_all exact eqR (Eq.refl _)) [nums, -getElem!_pos, -Int.natCast_add, -Int.natCast_mul, -Int.natCast_ediv]
      refine ih (i + 1) _ (by omega) ?_ ?_ (by omega) (by omega) (by rw [ck, if_pos (.inr he), hc, take_snoc (by omega)])
      all_goals simp [h0, h3]

/-- Leaving out what stands twice in a row. -/
theorem call_92 {id n lo : Nat} {ex : Bool} {d : Array Mo} {H : Heap} (hn : n ≤ lo) (hlo : lo ≤ d.size) (hs : d.size < 2 ^ 40) (hid : id < H.next) (hd : H.obj id = .cells (tM.arr d) none) :
    Res (callI tab 92 [.sl id 0 n lo ex 8] H) fun e H' => ∃ (d' : Array Mo) (k : Nat), e = .sl id 0 k lo ex 8 ∧ d'.size = d.size ∧ k ≤ n ∧ d'.toList.take k = ck d n ∧ Wr H H' id (.cells (tM.arr d') none) := by
  refine .hide fun Q hQ => .enter tab_92 (by simp [AF92]) (.inl rfl) ?_
  have hfin : ∀ d' k H', d'.size = d.size → k ≤ n → d'.toList.take k = ck d n → Wr H.begin H' id (.cells (tM.arr d') none) → Res (some (wrapA H (.sl id 0 k lo ex 8) H')) Q := fun d' k H' e1 e2 e3 hw => by
    obtain ⟨H2, e, w⟩ := hw.toFx.wrapA (H := H) (v := .sl id 0 k lo ex 8) (by simp [AV.noNew]; exact hid)
    rw [e]
    exact .mk (hQ _ _ ⟨d', k, rfl, e1, e2, e3, w⟩)
  by_cases h2 : n < 2
  · simp -implicitDefEqProofs (disch := first | omega | with_unfolding_all exact eqR (Eq.refl _)) [nums, -getElem!_pos, -Int.natCast_add, -Int.natCast_mul, -Int.natCast_ediv, AF92, S92_9]
    refine hfin d n H.begin rfl (Nat.le_refl _) ?_ (.refl hid hd)
    have : n = 0 ∨ n = 1 := by omega
    rcases this with rfl | rfl
    · rfl
    · rw [take_snoc (by omega)]; simp [ck]
  · simp -implicitDefEqProofs (disch := first | omega | with_unfolding_all exact eqR (Eq.refl _)) [nums, -getElem!_pos, -Int.natCast_add, -Int.natCast_mul, -Int.natCast_ediv, AF92, S92_9]
    refine l92_7 (id := id) (n := n) (lo := lo) (ex := ex) (d := d) (H0 := H) (H := H.begin) hn hlo hs hid hd hfin _ 1 _ rfl ?_ ?_ (Nat.le_refl _) (by omega) (by rw [take_snoc (by omega)]; simp [ck])
    all_goals simp
end
end Go.Mach.Ytl
