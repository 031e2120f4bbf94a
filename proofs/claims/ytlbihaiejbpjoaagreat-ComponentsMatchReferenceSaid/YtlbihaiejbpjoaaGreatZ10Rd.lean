/-
  Pruned copy of the text Rd. By an AI agent.
-/
import Derived.Test.YtlbihaiejbpjoaaGreatZ10Ra
set_option linter.unusedSimpArgs false
set_option linter.unusedVariables false
set_option maxRecDepth 100000
namespace Go.Mach.Ytl
open Go.Mach
section
variable {s : List Jtm} {k : KF} {Q : AV → Heap → Prop}
attribute [local simp] guardI_u
theorem accp_keep {own : Nat → Prop} {H : Heap} {v : AV} {l : List Mo} (h : AccP tM own H v l) (hs : l.length < 2 ^ 30) (a : Mo) :
    ∃ v' H', appA H 8 64 v (.vec 1 true a.cells) = some (v', H') ∧ AccP tM (fun i => own i ∨ i = H.next) H' v l ∧ RdF H' v' (l ++ [a]) ∧ Df own H H' ∧ H'.next = H.next + 1 := by
  have hsrc : srcA H 8 (.vec 1 true a.cells) = some (1, a.cells) := rfl
  have hrow : tM.row [a] = a.cells := (row_one a).symm
  cases h with
  | nil =>
    refine ⟨.sl H.next 0 1 1 false 8, H.new (.cells a.cells none), by simp [appA, hsrc], .nil, fun H' h1 h2 => ?_, Df.refl.new _, rfl⟩
    exact Rd.live (rel := none) (m := [a]) (by rw [h2 H.next (by show H.next < H.next + 1; omega), hrow]; simp [Heap.new, upd]) (by simp) (by simp) (by simp)
  | vec =>
    refine ⟨.sl H.next 0 1 1 false 8, H.new (.cells a.cells none), by simp [appA, hsrc], .vec, fun H' h1 h2 => ?_, Df.refl.new _, rfl⟩
    exact Rd.live (rel := none) (m := [a]) (by rw [h2 H.next (by show H.next < H.next + 1; omega), hrow]; simp [Heap.new, upd]) (by simp) (by simp) (by simp)
  | live id rel l n hnl hobj hid hidn hrel hne =>
    subst hnl
    have hl : (tM.row l).length = l.length * 8 := tM.row_length l
    have hne2 : id ≠ H.next := by omega
    have hnx : ((H.kill rel).set id (.cells (tM.row l) (some H.next))).next = H.next := by cases rel <;> rfl
    have hnx2 : (H.kill rel).next = H.next := by cases rel <;> rfl
    refine ⟨.sl H.next 0 (l.length + 1) (l.length + 1) false 8, ((H.kill rel).set id (.cells (tM.row l) (some H.next))).new (.cells (tM.row l ++ a.cells) (some id)), ?_, ?_, fun H' h1 h2 => ?_, ((Df.refl.kill fun r h => (hrel r h).1).set _ (.inl hid)).new _, by show _ + 1 = _; rw [hnx]⟩
    · simp only [appA, hsrc]
      rw [if_neg (by decide), show tM.e = 8 from rfl]
      simp only [ne_eq, not_true_eq_false, if_false]
      rw [hobj]
      simp only
      rw [if_neg (by omega), if_pos (by omega)]
      simp [hl]
    · refine .live id (some H.next) l _ rfl ?_ (.inl hid) ?_ (fun r h => ?_) hne
      · simp only [Heap.new, Heap.set, upd]
        rw [hnx2, if_neg hne2]; simp
      · show id < ((H.kill rel).set id (.cells (tM.row l) (some H.next))).next + 1
        rw [hnx]; omega
      · cases h
        refine ⟨.inr rfl, fun e => hne2 e.symm, ?_⟩
        show H.next < ((H.kill rel).set id (.cells (tM.row l) (some H.next))).next + 1
        rw [hnx]; omega
    · refine Rd.live (rel := some id) (m := l ++ [a]) (id := H.next) ?_ (by simp) (by rw [List.take_of_length_le (by simp)]) (by simp)
      rw [h2 H.next (by show H.next < ((H.kill rel).set id (.cells (tM.row l) (some H.next))).next + 1; rw [hnx]; omega)]
      simp only [Heap.new, upd]
      rw [hnx, if_pos rfl, tM.row_append, hrow]
structure Add (H H' : Heap) : Prop where
  next : H.next ≤ H'.next
  obj : ∀ i, i < H.next → H'.obj i = H.obj i
  base : H'.base = H.base
  wi : ∀ i ∈ H'.ws, i ∈ H.ws ∨ H.next ≤ i
  ws : H.base ≤ H.next → H'.ws = H.ws
theorem Add.refl {H : Heap} : Add H H := ⟨Nat.le_refl _, fun _ _ => rfl, rfl, fun _ h => .inl h, fun _ => rfl⟩
theorem Add.box {H H' : Heap} (a : Add H H') (o o' : AObj) : Add H ((H'.new o).set H'.next o') where
  next := by have := a.next; show H.next ≤ H'.next + 1; omega
  obj i hi := by have := a.next; simp only [Heap.new, Heap.set, upd]; rw [if_neg (by omega), if_neg (by omega), a.obj i hi]
  base := a.base
  wi i h := by
    have h2 := a.next
    simp only [Heap.set] at h
    split at h
    · have h : i ∈ H'.next :: H'.ws := h
      rcases List.mem_cons.1 h with rfl | h
      · exact .inr h2
      · exact a.wi i h
    · have h : i ∈ H'.ws := h
      exact a.wi i h
  ws hb := by
    have h1 := a.next
    have h2 := a.base
    simp only [Heap.set]
    rw [if_neg (by show ¬ H'.next < H'.base; omega)]
    exact a.ws hb
theorem Add.df {own : Nat → Prop} {H H' : Heap} (a : Add H H') : Df own H H' := ⟨fun i h _ => a.obj i h, a.next, a.base, fun _ h => a.ws h, fun i h => (a.wi i h).imp id .inr⟩
theorem Df.into {own own' : Nat → Prop} {H H' : Heap} (a : Df own H H') (h : ∀ i, own i → own' i) : Df own' H H' := a.mono (fun i h1 _ => h i h1) (.inr fun h2 i h1 => h2 i (h i h1))
theorem Df.wrapE {own : Nat → Prop} {H H3 : Heap} {v : AV} (d : Df (fun i => own i ∨ H.next ≤ i) H.begin H3) (hv : v.noNew H.next 4 = false) (hown : ∀ i, own i → H.base ≤ i) (hbn : H.base ≤ H.next) : ∃ H', wrapA H v H3 = (v, H') ∧ Df own H H' ∧ H'.next = H3.next ∧ H'.obj = unrelO H.next v H3.obj := by
  have hw : ∀ i ∈ H3.ws, H.base ≤ i := fun i hi => by
    rcases d.wi i hi with h | (h | h) | h
    · cases h
    · exact hown i h
    · omega
    · have : H.begin.next = H.next := rfl
      omega
  have hfil : H3.ws.filter (fun i => decide (i < H.base)) = [] := by
    rw [List.filter_eq_nil_iff]
    intro i hi
    have := hw i hi
    simp; omega
  have hobj : ∀ i, i < H.next → ¬ own i → H3.obj i = H.obj i := fun i h1 h2 => d.obj i h1 fun h => by
    rcases h with h | h
    · exact h2 h
    · omega
  cases hws : H3.ws with
  | nil =>
    refine ⟨{ H3 with obj := unrelO H.next v H3.obj, base := H.base, ws := H.ws, wc := H.wc }, ?_, ⟨fun i h1 h2 => (unrel_lt h1).trans (hobj i h1 h2), d.next, rfl, fun _ _ => rfl, fun i h => .inl h⟩, rfl, rfl⟩
    unfold wrapA
    rw [hws]
    simp [hv]
  | cons x xs =>
    refine ⟨{ H3 with obj := unrelO H.next v H3.obj, base := H.base, ws := H3.ws.filter (fun i => decide (i < H.base)) ++ H.ws, wc := H.wc + 1 }, ?_, ⟨fun i h1 h2 => (unrel_lt h1).trans (hobj i h1 h2), d.next, rfl, fun _ _ => by rw [hfil]; rfl, fun i h => .inl (by rw [hfil] at h; exact h)⟩, rfl, rfl⟩
    unfold wrapA
    rw [hws]
    simp [hv]
theorem l69_2 {v23 : AV} {Y : List Mo} {b : Mo} {b7 : Nat} {Hb : Heap} (hY : RdF Hb v23 Y) (hYl : Y.length < 2 ^ 40) (h7n : b7 < Hb.next) (o7 : Hb.obj b7 = .cells b.cells none) {x0 x3 x5 x14 x15 x16 : AV} : ∀ (m j : Nat) (σ : Sig) (H : Heap), Y.length - j = m → j ≤ Y.length → σ 0 = x0 → σ 3 = x3 → σ 5 = x5 → σ 7 = .ptr b7 0 → σ 14 = x14 → σ 15 = x15 → σ 16 = x16 → σ 23 = v23 → σ 24 = .int .i64 (Y.length : Nat) → σ 25 = .int .i64 (j : Nat) → Add Hb H →
    (∀ σ' H', σ' 0 = x0 → σ' 3 = x3 → σ' 5 = x5 → σ' 7 = .ptr b7 0 → σ' 14 = x14 → σ' 15 = x15 → σ' 16 = x16 → Add Hb H' → (((Y.drop j).any fun c => !decide (b = c) && insB c b) = false → Res (gi (callI tab) S69_3 (.inBlock 1 :: s) k σ' H') Q) ∧ (((Y.drop j).any fun c => !decide (b = c) && insB c b) = true → Res (ai (callI tab) s k .nrm σ' H') Q)) →
    Res (li (callI tab) L69_2 (.inBlock 2 :: .code S69_3 :: .inBlock 1 :: s) k σ H) Q := by
  intro m
  induction m with
  | zero =>
    intro j σ H hm hj h0 h3 h5 h7 h14 h15 h16 h23 h24 h25 hA hQ
    rw [List.drop_of_length_le (by omega)] at hQ
    obtain ⟨s3, hs3⟩ : ∃ x, x = S69_3 := ⟨_, rfl⟩
    rw [← hs3] at hQ ⊢
    obtain ⟨il, hil⟩ : ∃ x, x = Jtm.inLoop L69_2 := ⟨_, rfl⟩; rw [li_eq' il hil]
    simp -implicitDefEqProofs (disch := first | omega | with_unfolding_all exact eqR (Eq.refl _)) [nums, -getElem!_pos, -Int.natCast_add, -Int.natCast_mul, -Int.natCast_ediv, L69_2, S69_1, h0, h3, h5, h7, h14, h15, h16, h23, h24, h25]
    subst hil
    try simp -implicitDefEqProofs (disch := first | omega | with_unfolding_all exact eqR (Eq.refl _)) [nums, -getElem!_pos, -Int.natCast_add, -Int.natCast_mul, -Int.natCast_ediv]
    refine (hQ _ H ?_ ?_ ?_ ?_ ?_ ?_ ?_ hA).1 rfl <;> simp [h0, h3, h5, h7, h14, h15, h16]
  | succ m ih =>
    intro j σ H hm hj h0 h3 h5 h7 h14 h15 h16 h23 h24 h25 hA hQ
    have hjl : j < Y.length := by omega
    obtain ⟨p, e1, e2⟩ := rd_at (hY H hA.next hA.obj) hjl
    rw [List.drop_eq_getElem_cons hjl, List.any_cons] at hQ
    have hA' : Add Hb ((H.new (.cells Mo.zero.cells none)).set H.next (.cells (Y[j]).cells none)) := hA.box _ _
    have hne : ¬ b7 = H.next := by have := hA.next; omega
    have o7' : H.obj b7 = .cells b.cells none := by rw [hA.obj b7 h7n]; exact o7
    have c98 := fun H => call_98 (a := Y[j]) (c := b) (H := H)
    obtain ⟨s3, hs3⟩ : ∃ x, x = S69_3 := ⟨_, rfl⟩
    rw [← hs3] at hQ ih ⊢
    by_cases he : b = Y[j]
    · rw [decide_eq_true he, Bool.not_true, Bool.false_and, Bool.false_or] at hQ
      rw [← he] at e2 hA'
      obtain ⟨il, hil⟩ : ∃ x, x = Jtm.inLoop L69_2 := ⟨_, rfl⟩; rw [li_eq' il hil]
      simp -implicitDefEqProofs (disch := first | omega | with_unfolding_all exact eqR (Eq.refl _)) [nums, -getElem!_pos, -Int.natCast_add, -Int.natCast_mul, -Int.natCast_ediv, L69_2, S69_1, S69_0, h0, h3, h5, h7, h14, h15, h16, h23, h24, h25, e1, e2, storeZ, ldM, hne, o7', ← he]
      subst hil
      try simp -implicitDefEqProofs (disch := first | omega | with_unfolding_all exact eqR (Eq.refl _)) [nums, -getElem!_pos, -Int.natCast_add, -Int.natCast_mul, -Int.natCast_ediv]
      refine ih (j + 1) _ _ (by omega) (by omega) ?_ ?_ ?_ ?_ ?_ ?_ ?_ ?_ ?_ ?_ hA' hQ
      all_goals simp [h0, h3, h5, h7, h14, h15, h16, h23, h24]
    · rw [decide_eq_false he, Bool.not_false, Bool.true_and] at hQ
      cases hi : insB Y[j] b with
      | true =>
        rw [hi, Bool.true_or] at hQ
        rw [hi] at c98
        obtain ⟨il, hil⟩ : ∃ x, x = Jtm.inLoop L69_2 := ⟨_, rfl⟩; rw [li_eq' il hil]
        simp -implicitDefEqProofs (disch := first | omega | with_unfolding_all exact eqR (Eq.refl _)) [nums, -getElem!_pos, -Int.natCast_add, -Int.natCast_mul, -Int.natCast_ediv, L69_2, S69_1, S69_0, h0, h3, h5, h7, h14, h15, h16, h23, h24, h25, e1, e2, storeZ, ldM, hne, o7', he, c98]
        subst hil
        try simp -implicitDefEqProofs (disch := first | omega | with_unfolding_all exact eqR (Eq.refl _)) [nums, -getElem!_pos, -Int.natCast_add, -Int.natCast_mul, -Int.natCast_ediv]
        refine (hQ _ _ ?_ ?_ ?_ ?_ ?_ ?_ ?_ hA').2 rfl <;> simp [h0, h3, h5, h7, h14, h15, h16]
      | false =>
        rw [hi, Bool.false_or] at hQ
        rw [hi] at c98
        obtain ⟨il, hil⟩ : ∃ x, x = Jtm.inLoop L69_2 := ⟨_, rfl⟩; rw [li_eq' il hil]
        simp -implicitDefEqProofs (disch := first | omega | with_unfolding_all exact eqR (Eq.refl _)) [nums, -getElem!_pos, -Int.natCast_add, -Int.natCast_mul, -Int.natCast_ediv, L69_2, S69_1, S69_0, h0, h3, h5, h7, h14, h15, h16, h23, h24, h25, e1, e2, storeZ, ldM, hne, o7', he, c98]
        subst hil
        try simp -implicitDefEqProofs (disch := first | omega | with_unfolding_all exact eqR (Eq.refl _)) [nums, -getElem!_pos, -Int.natCast_add, -Int.natCast_mul, -Int.natCast_ediv]
        refine ih (j + 1) _ _ (by omega) (by omega) ?_ ?_ ?_ ?_ ?_ ?_ ?_ ?_ ?_ ?_ hA' hQ
        all_goals simp [h0, h3, h5, h7, h14, h15, h16, h23, h24]
theorem l69_6 {v0 v14 : AV} {l : List Mo} {a : Mo} {own prot : Nat → Prop} {Hs H2 : Heap} {b3 : Nat} (hl : l.length < 2 ^ 20) (hbs : Hs.base ≤ Hs.next) (hX : ∀ H', (∀ i, prot i → H'.obj i = H2.obj i) → Rd tM H' v14 (l ++ [a])) (hp3 : prot b3) (h3o : H2.obj b3 = .cells a.cells none) : ∀ (m j : Nat) (σ : Sig) (H : Heap) (w : AV) (cur : List Mo) (oL oO : Nat → Prop), (l ++ [a]).length - j = m → j ≤ (l ++ [a]).length → σ 0 = v0 → σ 3 = .ptr b3 0 → σ 5 = w → σ 14 = v14 → σ 15 = .int .i64 ((l ++ [a]).length : Nat) → σ 16 = .int .i64 (j : Nat) →
    AccP tM oL H v0 l → AccP tM oO H w cur → cur.length ≤ j → (∀ i, oL i → i < H.next ∧ (own i ∨ Hs.next ≤ i)) → (∀ i, oO i → i < H.next ∧ Hs.next ≤ i) → (∀ i, oL i → ¬ oO i) → (∀ i, prot i → i < H.next ∧ ¬ oL i ∧ ¬ oO i ∧ H.obj i = H2.obj i) → Df (fun i => own i ∨ Hs.next ≤ i) Hs H →
    (∀ σ' H' w' oO', σ' 5 = w' → AccP tM oO' H' w' (((l ++ [a]).drop j).foldl (insS (l ++ [a])) cur) → (∀ i, oO' i → Hs.next ≤ i) → Df (fun i => own i ∨ Hs.next ≤ i) Hs H' → Res (ai (callI tab) s k .nrm σ' H') Q) →
    Res (li (callI tab) L69_6 (.inBlock 0 :: s) k σ H) Q := by
  intro m
  induction m with
  | zero =>
    intro j σ H w cur oL oO hm hj h0 h3 h5 h14 h15 h16 hL hO hlen cL cO dis hpr df hQ
    rw [List.drop_of_length_le (by omega)] at hQ
    have hc : ¬ ((j : Int) < (((l ++ [a]).length : Nat) : Int)) := by omega
    generalize hN : (l ++ [a]).length = N at *
    obtain ⟨il, hil⟩ : ∃ x, x = Jtm.inLoop L69_6 := ⟨_, rfl⟩; rw [li_eq' il hil]
    simp -implicitDefEqProofs (disch := first | omega | with_unfolding_all exact eqR (Eq.refl _)) [nums, -getElem!_pos, -Int.natCast_add, -Int.natCast_mul, -Int.natCast_ediv, L69_6, S69_5, h0, h3, h5, h14, h15, h16, hc]
    subst hil
    try simp -implicitDefEqProofs (disch := first | omega | with_unfolding_all exact eqR (Eq.refl _)) [nums, -getElem!_pos, -Int.natCast_add, -Int.natCast_mul, -Int.natCast_ediv]
    refine hQ _ _ w oO ?_ hO (fun i h => (cO i h).2) df
    simp [h5]
  | succ m ih =>
    intro j σ H w cur oL oO hm hj h0 h3 h5 h14 h15 h16 hL hO hlen cL cO dis hpr df hQ
    have hjl : j < (l ++ [a]).length := by omega
    have hll : (l ++ [a]).length = l.length + 1 := by simp
    obtain ⟨p, e1, e2⟩ := rd_at (hX H fun i h => (hpr i h).2.2.2) hjl
    rw [List.drop_eq_getElem_cons hjl, List.foldl_cons] at hQ
    generalize hXe : l ++ [a] = X at *
    have hb3 := hpr b3 hp3
    have hne3 : ¬ b3 = H.next := by omega
    have o3 : H.obj b3 = .cells a.cells none := by rw [hb3.2.2.2]; exact h3o
    have dA : Add H ((H.new (.cells Mo.zero.cells none)).set H.next (.cells (X[j]).cells none)) := Add.refl.box _ _
    have nA : ((H.new (.cells Mo.zero.cells none)).set H.next (.cells (X[j]).cells none)).next = H.next + 1 := rfl
    have oA : ((H.new (.cells Mo.zero.cells none)).set H.next (.cells (X[j]).cells none)).obj H.next = .cells (X[j]).cells none := by simp [Heap.set, upd]
    have hLA : AccP tM oL ((H.new (.cells Mo.zero.cells none)).set H.next (.cells (X[j]).cells none)) v0 l := hL.frame dA.next (fun i _ h => dA.obj i h) fun i h _ => h
    obtain ⟨v', Hb, e3, hLb, hrd, dB, nB⟩ := accp_keep hLA (by omega) a
    rw [hXe] at hrd
    have n7 : H.next < Hb.next := by rw [nB, nA]; omega
    have o7 : Hb.obj H.next = .cells (X[j]).cells none := by rw [dB.obj H.next (by rw [nA]; omega) (fun h => by have := (cL _ h).1; omega)]; exact oA
    have hlv : lenA Hb 1 v' = some (.int .i64 (X.length : Nat)) := hrd.at.1
    have dAB : Df oL H Hb := dA.df.trans dB
    obtain ⟨il, hil⟩ : ∃ x, x = Jtm.inLoop L69_6 := ⟨_, rfl⟩; rw [li_eq' il hil]
    simp -implicitDefEqProofs (disch := first | omega | with_unfolding_all exact eqR (Eq.refl _)) [nums, -getElem!_pos, -Int.natCast_add, -Int.natCast_mul, -Int.natCast_ediv, L69_6, S69_5, h0, h3, h5, h14, h15, h16, e1, e2, storeZ, ldM, hne3, o3, bslR_mono, e3, hlv]
    refine l69_2 (v23 := v') (Y := X) (b := X[j]) (b7 := H.next) (Hb := Hb) hrd (by omega) n7 o7 (x0 := v0) (x3 := .ptr b3 0) (x5 := w) (x14 := v14) (x15 := .int .i64 (X.length : Nat)) (x16 := .int .i64 (j : Nat)) _ 0 _ _ rfl (by omega) ?_ ?_ ?_ ?_ ?_ ?_ ?_ ?_ ?_ ?_ .refl fun σ1 H1 g0 g3 g5 g7 g14 g15 g16 hA => ?_
    any_goals (first | (simp [h0, h3, h5, h14, h15, h16]; done) | skip)
    rw [List.drop_zero]
    have n1 := hA.next
    have hL1 : AccP tM (fun i => oL i ∨ i = H.next + 1) H1 v0 l := hLb.frame hA.next (fun i _ h => hA.obj i h) fun i h _ => by rw [nA] at h; exact h
    have old1 : ∀ i, i < H.next → ¬ oL i → H1.obj i = H.obj i := fun i h1 h2 => by rw [hA.obj i (by omega)]; exact dAB.obj i h1 h2
    have hO1 : AccP tM oO H1 w cur := hO.frame (by omega) (fun i h1 h2 => old1 i h2 fun h3 => dis i h3 h1) fun i h _ => h
    have cL1 : ∀ i, (oL i ∨ i = H.next + 1) → i < H1.next ∧ (own i ∨ Hs.next ≤ i) := fun i h => by
      have := df.next
      rcases h with h | h
      · have := cL i h; exact ⟨by omega, this.2⟩
      · exact ⟨by omega, .inr (by omega)⟩
    have cO1 : ∀ i, oO i → i < H1.next ∧ Hs.next ≤ i := fun i h => ⟨by have := (cO i h).1; omega, (cO i h).2⟩
    have dis1 : ∀ i, (oL i ∨ i = H.next + 1) → ¬ oO i := fun i h h2 => by
      rcases h with h | h
      · exact dis i h h2
      · have := (cO i h2).1; omega
    have hpr1 : ∀ i, prot i → i < H1.next ∧ ¬ (oL i ∨ i = H.next + 1) ∧ ¬ oO i ∧ H1.obj i = H2.obj i := fun i h => by
      obtain ⟨q1, q2, q3, q4⟩ := hpr i h
      refine ⟨by omega, fun h => ?_, q3, by rw [old1 i q1 q2]; exact q4⟩
      rcases h with h | h
      · exact q2 h
      · omega
    have df1 : Df (fun i => own i ∨ Hs.next ≤ i) Hs H1 := df.trans ((Df.into dAB fun i h => (cL i h).2).trans (Add.df hA))
    have o71 : H1.obj H.next = .cells (X[j]).cells none := by rw [hA.obj _ n7]; exact o7
    refine ⟨fun hk => ?_, fun hk => ?_⟩
    · have hkeep : keepB X X[j] = true := by unfold keepB; rw [hk]; rfl
      have c99 : callI tab 57 [w, mono X[j]] H1 = some (.bool (decide (X[j] ∈ cur)), H1) := call_99 (AccP.rdF hO1) (by omega)
      by_cases hin : X[j] ∈ cur
      · have hst : insS X cur X[j] = cur := by unfold insS; rw [if_neg (fun h => h.2 hin)]
        rw [hst] at hQ
        rw [decide_eq_true hin] at c99
        simp -implicitDefEqProofs (disch := first | omega | with_unfolding_all exact eqR (Eq.refl _)) [nums, -getElem!_pos, -Int.natCast_add, -Int.natCast_mul, -Int.natCast_ediv, S69_3, S69_4, g0, g3, g5, g7, g14, g15, g16, o71, ldM, c99]
        subst hil
        try simp -implicitDefEqProofs (disch := first | omega | with_unfolding_all exact eqR (Eq.refl _)) [nums, -getElem!_pos, -Int.natCast_add, -Int.natCast_mul, -Int.natCast_ediv]
        refine ih (j + 1) _ H1 w cur _ oO (by omega) (by omega) ?_ ?_ ?_ ?_ ?_ ?_ hL1 hO1 (by omega) cL1 cO1 dis1 hpr1 df1 hQ
        all_goals simp [g0, g3, g5, g14, g15, g16]
      · have hst : insS X cur X[j] = cur ++ [X[j]] := by unfold insS; rw [if_pos ⟨hkeep, hin⟩]
        rw [hst] at hQ
        rw [decide_eq_false hin] at c99
        have hO2 : AccP tM (fun i => oO i ∨ i = H1.next) H1 w cur := hO1.frame (Nat.le_refl _) (fun _ _ _ => rfl) fun i h _ => .inl h
        obtain ⟨w', H3, e4, hO3, d3⟩ := hO2.app (m := [X[j]]) (bs := 64) (ex := true) (n := 1) (.inr rfl) (by simp) rfl (by simp; omega)
        rw [show tM.e = 8 from rfl, ← row_one] at e4
        have n3 := d3.next
        have old3 : ∀ i, i < H1.next → ¬ oO i → H3.obj i = H1.obj i := fun i h1 h2 => d3.obj i h1 fun h => by
          rcases h with h | h
          · exact h2 h
          · omega
        simp -implicitDefEqProofs (disch := first | omega | with_unfolding_all exact eqR (Eq.refl _)) [nums, -getElem!_pos, -Int.natCast_add, -Int.natCast_mul, -Int.natCast_ediv, S69_3, S69_4, g0, g3, g5, g7, g14, g15, g16, o71, ldM, c99, bslR_mono, e4]
        subst hil
        try simp -implicitDefEqProofs (disch := first | omega | with_unfolding_all exact eqR (Eq.refl _)) [nums, -getElem!_pos, -Int.natCast_add, -Int.natCast_mul, -Int.natCast_ediv]
        have n31 : H1.next < H3.next := by
          obtain ⟨v5, H5, e5, _, _, _, hn⟩ := accp_keep hO2 (by omega) X[j]
          rw [e4] at e5
          cases e5
          omega
        refine ih (j + 1) _ H3 w' _ (fun i => oL i ∨ i = H.next + 1) (fun i => oO i ∨ i = H1.next) (by omega) (by omega) ?_ ?_ ?_ ?_ ?_ ?_ (hL1.frame n3 (fun i h1 h2 => old3 i h2 (dis1 i h1)) fun i h _ => h) hO3 (by simp; omega) (fun i h => ⟨by have := (cL1 i h).1; omega, (cL1 i h).2⟩) (fun i h => ?_) (fun i h h2 => ?_) (fun i h => ?_) (df1.trans (Df.into d3 fun i h => ?_)) hQ
        any_goals (first | (simp [g0, g3, g5, g14, g15, g16]; done) | skip)
        · rcases h with h | h
          · have := cO1 i h; exact ⟨by omega, this.2⟩
          · have := df.next; exact ⟨by omega, by omega⟩
        · rcases h2 with h2 | h2
          · exact dis1 i h h2
          · have := (cL1 i h).1; omega
        · obtain ⟨q1, q2, q3, q4⟩ := hpr1 i h
          refine ⟨by omega, q2, fun h => ?_, by rw [old3 i q1 q3]; exact q4⟩
          rcases h with h | h
          · exact q3 h
          · omega
        · rcases h with h | h
          · exact .inr (cO1 i h).2
          · have := df.next; exact .inr (by omega)
    · have hkeep : ¬ keepB X X[j] = true := by unfold keepB; rw [hk]; simp
      have hst : insS X cur X[j] = cur := by unfold insS; rw [if_neg (fun h => hkeep h.1)]
      rw [hst] at hQ
      simp -implicitDefEqProofs (disch := first | omega | with_unfolding_all exact eqR (Eq.refl _)) [nums, -getElem!_pos, -Int.natCast_add, -Int.natCast_mul, -Int.natCast_ediv, S69_4, g0, g3, g5, g7, g14, g15, g16]
      subst hil
      try simp -implicitDefEqProofs (disch := first | omega | with_unfolding_all exact eqR (Eq.refl _)) [nums, -getElem!_pos, -Int.natCast_add, -Int.natCast_mul, -Int.natCast_ediv]
      refine ih (j + 1) _ H1 w cur _ oO (by omega) (by omega) ?_ ?_ ?_ ?_ ?_ ?_ hL1 hO1 (by omega) cL1 cO1 dis1 hpr1 df1 hQ
      all_goals simp [g0, g3, g5, g14, g15, g16]
theorem accp_rd {own : Nat → Prop} {H H' : Heap} {v : AV} {l : List Mo} (h : AccP tM own H v l) (ho : ∀ i, own i → i < H.next → H'.obj i = H.obj i) : Rd tM H' v l := by
  cases h with
  | nil => exact (ML.rd (.inl ⟨rfl, rfl⟩) H')
  | vec => exact ML.rd (t := tM) (l := []) (.inr ⟨true, rfl⟩) H'
  | live id rel l n hnl hobj hid hidn hrel hne => exact Rd.live ((ho id hid hidn).trans hobj) hnl (by rw [hnl]; simp) (by omega)
theorem clone_any {own : Nat → Prop} {H : Heap} {v : AV} {l : List Mo} (h : AccP tM own H v l) (hl : l.length < 2 ^ 15) : ∃ vc Hc, callI tab 49 [v] H = some (vc, Hc) ∧ AccP tM (fun i => H.next ≤ i) Hc vc l ∧ Df (fun _ => False) H Hc ∧ Hc.wc = H.wc := by
  by_cases hne : l = []
  · subst hne
    cases h with
    | nil => exact ⟨_, _, call_87n, .nil, .refl, rfl⟩
    | vec => exact ⟨_, _, call_87v, .vec, .refl, rfl⟩
    | live id rel l n hnl hobj hid hidn hrel hne => exact absurd rfl hne
  · refine ⟨_, _, call_87L h hne (by omega), .live H.next none l l.length rfl ?_ (Nat.le_refl _) (by show H.next < H.next + 1; omega) (fun r h => by cases h) hne, Df.refl.new _, rfl⟩
    simp [Heap.new, upd]
def NF (own : Nat → Prop) (H : Heap) (w : AV) (l : List Mo) : Prop := (w = .nils ∧ l = []) ∨ (l ≠ [] ∧ ∃ id, w = .sl id 0 l.length l.length false 8 ∧ H.obj id = .cells (tM.row l) none ∧ id < H.next ∧ own id)
theorem NF.acc {own : Nat → Prop} {H : Heap} {w : AV} {l : List Mo} (h : NF own H w l) : AccP tM own H w l := by
  rcases h with ⟨rfl, rfl⟩ | ⟨hne, id, rfl, ho, hn, hi⟩
  · exact .nil
  · exact .live id none l _ rfl ho hi hn (fun r h => by cases h) hne
theorem NF.frame {own own' : Nat → Prop} {H H' : Heap} {w : AV} {l : List Mo} (h : NF own H w l) (hn : H.next ≤ H'.next) (ho : ∀ i, own i → i < H.next → H'.obj i = H.obj i) (hw : ∀ i, own i → i < H.next → own' i) : NF own' H' w l := by
  rcases h with ⟨rfl, rfl⟩ | ⟨hne, id, rfl, hob, hlt, hi⟩
  · exact .inl ⟨rfl, rfl⟩
  · exact .inr ⟨hne, id, rfl, (ho id hi hlt).trans hob, by omega, hw id hi hlt⟩
theorem call_69 {own : Nat → Prop} {v : AV} {l : List Mo} {a : Mo} {H : Heap} (h : AccP tM own H v l) (hl : l.length < 2 ^ 15) (hown : ∀ i, own i → H.base ≤ i) (hnew : ∀ i, H.next ≤ i → own i) (hbn : H.base ≤ H.next) (hX : ∀ x ∈ l ++ [a], x.nn) : Res (callI tab 31 [v, mono a] H) fun e H' => NF own H' e (insF (l ++ [a])) ∧ Df own H H' := by
  have hx1 : H.begin.next = H.next := rfl
  have d1 : Df (fun _ => False) H.begin (H.begin.new (.cells a.cells none)) := Df.refl.new _
  have n1 : (H.begin.new (.cells a.cells none)).next = H.next + 1 := rfl
  have h1 : AccP tM (fun i => own i ∧ i < H.next) (H.begin.new (.cells a.cells none)) v l := h.frame (by rw [n1]; omega) (fun i h1 h2 => d1.obj i h2 (fun h => h)) fun i h1 h2 => ⟨h1, h2⟩
  obtain ⟨vc, Hc, hc, hac, dc, hwc⟩ := clone_any h1 hl
  have haft : ∀ {d : Nat} {ls : List AOper} {s : List Jtm} {k : KF} {σ : Sig}, afterHI (callI tab) (some d) false (H.begin.new (.cells a.cells none)).wc ls s k σ (some (vc, Hc)) = oi (callI tab) ls s k (upd σ d vc) Hc := by
    intro d ls s k σ
    rw [← hwc]
    exact afterHI_same
  have nc := dc.next
  rw [n1] at nc
  obtain ⟨v14, H2, e14, ha2, d2⟩ := hac.app (m := [a]) (bs := 64) (ex := true) (n := 1) (by rw [n1]; exact nc) (by simp) rfl (by simp; omega)
  rw [show tM.e = 8 from rfl, ← row_one] at e14
  have n2 := d2.next
  have d12 : Df (fun i => H.next + 1 ≤ i) H.begin H2 := ((Df.into d1 fun i h => h.elim).trans (Df.into dc fun i h => h.elim)).trans d2
  have oc3 : Hc.obj H.next = .cells a.cells none := by rw [dc.obj H.next (by rw [n1]; omega) (fun h => h)]; simp [Heap.new, upd]
  have o3 : H2.obj H.next = .cells a.cells none := by rw [d2.obj H.next (by omega) (fun h => by rw [n1] at h; omega)]; exact oc3
  have hlen : lenA H2 1 v14 = some (.int .i64 ((l ++ [a]).length : Nat)) := (accp_rd ha2 fun _ _ _ => rfl).1
  refine .hide fun Q hQ => .enter tab_69 (by simp [AF69]) (.inl rfl) ?_
  simp -implicitDefEqProofs (disch := first | omega | with_unfolding_all exact eqR (Eq.refl _)) [nums, -getElem!_pos, -Int.natCast_add, -Int.natCast_mul, -Int.natCast_ediv, AF69, hc, haft, ldM, oc3, bslR_mono, e14, hlen, -List.length_append]
  refine l69_6 (v0 := v) (v14 := v14) (l := l) (a := a) (own := own) (prot := fun i => i = H.next ∨ (H.next + 1 ≤ i ∧ i < H2.next)) (Hs := H.begin) (H2 := H2) (b3 := H.next) (by omega) (Nat.le_refl _) (fun H' hp => accp_rd ha2 fun i h1 h2 => hp i (.inr ⟨h1, h2⟩)) (.inl rfl) o3 _ 0 _ H2 .nils [] (fun i => own i ∧ i < H.next) (fun _ => False) rfl (by omega) ?_ ?_ ?_ ?_ ?_ ?_ (h.frame (by omega) (fun i h1 h2 => d12.obj i h2 (by omega)) fun i h1 h2 => ⟨h1, h2⟩) .nil (by simp) (fun i h => ⟨by omega, .inl h.1⟩) (fun i h => h.elim) (fun i _ h => h) (fun i h => ⟨by omega, by omega, fun h => h, rfl⟩) (Df.into d12 fun i h => .inr (by rw [hx1]; omega)) fun σ' H' w' oO q5 ha ho df => ?_
  any_goals (first | (simp; done) | skip)
  rw [List.drop_zero] at ha
  have hne : insF (l ++ [a]) ≠ [] := insF_ne hX (by simp)
  have ha' : AccP tM oO H' w' (insF (l ++ [a])) := ha
  generalize insF (l ++ [a]) = r at *
  cases ha' with
  | nil => exact absurd rfl hne
  | vec => exact absurd rfl hne
  | live id rel r n hnl hobj hid hidn hrel hne2 =>
    have hidb : H.next ≤ id := ho id hid
    have hnn : (AV.sl id 0 n n false tM.e).noNew H.next 4 = false := by simp [AV.noNew]; omega
    obtain ⟨H3, hw, d3, n3, o3'⟩ := Df.wrapE (own := own) (H := H) (H3 := H') (v := .sl id 0 n n false tM.e) df hnn hown hbn
    have hob3 : H3.obj id = .cells (tM.row r) none := by
      rw [o3']
      simp only [unrelO, hobj]
      cases rel with
      | none => exact hobj
      | some q =>
        simp only
        have hq : H.next ≤ q := ho q (hrel q rfl).1
        rw [if_pos ⟨hidb, hq⟩]; simp [upd]
    simp -implicitDefEqProofs (disch := first | omega | with_unfolding_all exact eqR (Eq.refl _)) [nums, -getElem!_pos, -Int.natCast_add, -Int.natCast_mul, -Int.natCast_ediv, S69_7, q5, hw]
    subst hnl
    exact .mk (hQ _ _ ⟨.inr ⟨hne2, id, rfl, hob3, by omega, hnew id hidb⟩, d3⟩)
end
end Go.Mach.Ytl
set_option linter.unusedSimpArgs false
set_option linter.unusedVariables false
set_option maxRecDepth 100000
namespace Go.Mach.Ytl
open Go.Mach
section
variable {s : List Jtm} {k : KF} {Q : AV → Heap → Prop}
attribute [local simp ↓ high] pureA_idx
attribute [local simp] guardI_u
def Exps (L : List Mo) (a : Mo) : Prop := ∀ q, a.get q = 0 ∨ ∃ m ∈ L, 0 < m.get q ∧ a.get q = m.get q
theorem l19_2 {L : List Mo} (hB : ∀ r, Good L r → r.length ≤ 1000) {m a : Mo} (hm : m ∈ L) (hmn : m.nn) (ha : Exps L a) {Hn : Heap} (hbn : Hn.base ≤ Hn.next) {b11 : Nat} (hb11 : Hn.next ≤ b11) {x6 x8 x32 x33 x34 x38 x39 x40 : AV} : ∀ (r j : Nat) (σ : Sig) (H : Heap) (w : AV) (cur : List Mo), 8 - j = r → j ≤ 8 → σ 6 = x6 → σ 8 = x8 → σ 9 = w → σ 11 = .ptr b11 0 → σ 32 = x32 → σ 33 = x33 → σ 34 = x34 → σ 38 = x38 → σ 39 = x39 → σ 40 = x40 → σ 51 = mono m → σ 52 = .int .i64 (j : Nat) → NF (fun i => Hn.next ≤ i ∧ i ≠ b11) H w cur → Ow Hn H → b11 < H.next → H.obj b11 = .cells a.cells none → Good L cur →
    (∀ σ' H' w', σ' 6 = x6 → σ' 8 = x8 → σ' 9 = w' → σ' 32 = x32 → σ' 33 = x33 → σ' 34 = x34 → σ' 38 = x38 → σ' 39 = x39 → σ' 40 = x40 → NF (fun i => Hn.next ≤ i ∧ i ≠ b11) H' w' (varsF a m cur ((List.range 8).drop j)) → Ow Hn H' → Good L (varsF a m cur ((List.range 8).drop j)) → Res (ai (callI tab) s k .nrm σ' H') Q) →
    Res (li (callI tab) L19_2 (.inBlock 4 :: s) k σ H) Q := by
  intro r
  induction r with
  | zero =>
    intro j σ H w cur hr hj h6 h8 h9 h11 h32 h33 h34 h38 h39 h40 h51 h52 hN ho hlt hob hG hQ
    have : j = 8 := by omega
    subst this
    obtain ⟨il, hil⟩ : ∃ x, x = Jtm.inLoop L19_2 := ⟨_, rfl⟩; rw [li_eq' il hil]
    simp -implicitDefEqProofs (disch := first | omega | with_unfolding_all exact eqR (Eq.refl _)) [nums, -getElem!_pos, -Int.natCast_add, -Int.natCast_mul, -Int.natCast_ediv, L19_2, S19_1, h6, h8, h9, h11, h32, h33, h34, h38, h39, h40, h51, h52]
    subst hil
    try simp -implicitDefEqProofs (disch := first | omega | with_unfolding_all exact eqR (Eq.refl _)) [nums, -getElem!_pos, -Int.natCast_add, -Int.natCast_mul, -Int.natCast_ediv]
    have hd : (List.range 8).drop 8 = [] := rfl
    rw [hd] at hQ
    refine hQ _ _ w ?_ ?_ ?_ ?_ ?_ ?_ ?_ ?_ ?_ hN ho hG <;> simp [h6, h8, h9, h32, h33, h34, h38, h39, h40]
  | succ r ih =>
    intro j σ H w cur hr hj h6 h8 h9 h11 h32 h33 h34 h38 h39 h40 h51 h52 hN ho hlt hob hG hQ
    have hj8 : j < 8 := by omega
    have c8 : ((j : Nat) : Int) < 8 := by omega
    rw [List.drop_eq_getElem_cons (by simp; omega), List.getElem_range] at hQ
    by_cases h0 : 0 < m.get j
    · have hv : varsF a m cur (j :: (List.range 8).drop (j + 1)) = varsF a m (insF (cur ++ [a.setI j (m.get j)])) ((List.range 8).drop (j + 1)) := by simp only [varsF, List.foldl_cons, if_pos h0]
      rw [hv] at hQ
      have hex := set_exps hj8 hm h0 ha
      have hG2 := hG.ins hex
      have hnx := ho.next
      have hbs := ho.base
      have dA : Df (fun i => Hn.next ≤ i ∧ i ≠ b11) H (((H.new (.cells Mo.zero.cells none)).set H.next (.cells a.cells none)).set H.next (.cells (a.setI j (m.get j)).cells none)) := ((Df.refl.new _).set _ (.inr (Nat.le_refl _))).set _ (.inr (Nat.le_refl _))
      have nA : (((H.new (.cells Mo.zero.cells none)).set H.next (.cells a.cells none)).set H.next (.cells (a.setI j (m.get j)).cells none)).next = H.next + 1 := rfl
      have bA : (((H.new (.cells Mo.zero.cells none)).set H.next (.cells a.cells none)).set H.next (.cells (a.setI j (m.get j)).cells none)).base = H.base := rfl
      have hNA : NF (fun i => Hn.next ≤ i ∧ i ≠ b11) (((H.new (.cells Mo.zero.cells none)).set H.next (.cells a.cells none)).set H.next (.cells (a.setI j (m.get j)).cells none)) w cur := hN.frame dA.next (fun i h1 h2 => by simp only [Heap.new, Heap.set, upd]; rw [if_neg (by omega), if_neg (by omega), if_neg (by omega)]) fun i h _ => h
      have hlen := hB _ hG
      obtain ⟨il, hil⟩ : ∃ x, x = Jtm.inLoop L19_2 := ⟨_, rfl⟩; rw [li_eq' il hil]
      simp -implicitDefEqProofs (disch := first | omega | with_unfolding_all exact eqR (Eq.refl _)) [nums, -getElem!_pos, -Int.natCast_add, -Int.natCast_mul, -Int.natCast_ediv, L19_2, S19_1, S19_0, h6, h8, h9, h11, h32, h33, h34, h38, h39, h40, h51, h52, c8, idxV_mono, h0, hob, ldM, storeZ, iaddr_arr, storeI]
      refine .call (call_69 (own := fun i => Hn.next ≤ i ∧ i ≠ b11) hNA.acc (by omega) (fun i h => by rw [bA]; omega) (fun i h => by rw [nA] at h; omega) (by rw [bA, nA]; omega) (app_nn hG hex)) fun e H2 ⟨hN2, d2⟩ => ?_
      have d12 := dA.trans d2
      have n2 := d12.next
      simp -implicitDefEqProofs (disch := first | omega | with_unfolding_all exact eqR (Eq.refl _)) [nums, -getElem!_pos, -Int.natCast_add, -Int.natCast_mul, -Int.natCast_ediv, S19_0, h6, h8, h9, h11, h32, h33, h34, h38, h39, h40, h51, h52]
      subst hil
      try simp -implicitDefEqProofs (disch := first | omega | with_unfolding_all exact eqR (Eq.refl _)) [nums, -getElem!_pos, -Int.natCast_add, -Int.natCast_mul, -Int.natCast_ediv]
      refine ih (j + 1) _ H2 e _ (by omega) (by omega) ?_ ?_ ?_ ?_ ?_ ?_ ?_ ?_ ?_ ?_ ?_ ?_ hN2 (d12.ow ho hbn fun i h => h.1) (by omega) (by rw [d12.obj b11 hlt (fun h => h.2 rfl)]; exact hob) hG2 hQ
      all_goals simp [h6, h8, h9, h11, h32, h33, h34, h38, h39, h40, h51]
    · have hv : varsF a m cur (j :: (List.range 8).drop (j + 1)) = varsF a m cur ((List.range 8).drop (j + 1)) := by simp only [varsF, List.foldl_cons, if_neg h0]
      rw [hv] at hQ
      obtain ⟨il, hil⟩ : ∃ x, x = Jtm.inLoop L19_2 := ⟨_, rfl⟩; rw [li_eq' il hil]
      simp -implicitDefEqProofs (disch := first | omega | with_unfolding_all exact eqR (Eq.refl _)) [nums, -getElem!_pos, -Int.natCast_add, -Int.natCast_mul, -Int.natCast_ediv, L19_2, S19_1, S19_0, h6, h8, h9, h11, h32, h33, h34, h38, h39, h40, h51, h52, c8, idxV_mono, h0]
      subst hil
      try simp -implicitDefEqProofs (disch := first | omega | with_unfolding_all exact eqR (Eq.refl _)) [nums, -getElem!_pos, -Int.natCast_add, -Int.natCast_mul, -Int.natCast_ediv]
      refine ih (j + 1) _ H w cur (by omega) (by omega) ?_ ?_ ?_ ?_ ?_ ?_ ?_ ?_ ?_ ?_ ?_ ?_ hN ho hlt hob hG hQ
      all_goals simp [h6, h8, h9, h11, h32, h33, h34, h38, h39, h40, h51]
theorem l19_6 {L : List Mo} (hB : ∀ r, Good L r → r.length ≤ 1000) {m : Mo} (hm : m ∈ L) (hmn : m.nn) {Hn : Heap} (hbn : Hn.base ≤ Hn.next) {vp : AV} {P : List Mo} (hP : Stb Hn vp P) (hPe : ∀ a ∈ P, Exps L a) (hPl : P.length ≤ 1000) {b8 : Nat} (hb8 : b8 < Hn.next) (o8 : Hn.obj b8 = .cells m.cells none) {x6 x32 x33 x34 : AV} : ∀ (r j : Nat) (σ : Sig) (H : Heap) (w : AV) (cur : List Mo), P.length - j = r → j ≤ P.length → σ 6 = x6 → σ 8 = .ptr b8 0 → σ 9 = w → σ 32 = x32 → σ 33 = x33 → σ 34 = x34 → σ 38 = vp → σ 39 = .int .i64 (P.length : Nat) → σ 40 = .int .i64 (j : Nat) → NF (fun i => Hn.next ≤ i) H w cur → Ow Hn H → Good L cur →
    (∀ σ' H' w', σ' 9 = w' → σ' 32 = x32 → σ' 33 = x33 → σ' 34 = x34 → NF (fun i => Hn.next ≤ i) H' w' ((P.drop j).foldl (partF m) cur) → Ow Hn H' → Good L ((P.drop j).foldl (partF m) cur) → Res (ai (callI tab) s k .nrm σ' H') Q) →
    Res (li (callI tab) L19_6 (.inBlock 2 :: s) k σ H) Q := by
  intro r
  induction r with
  | zero =>
    intro j σ H w cur hr hj h6 h8 h9 h32 h33 h34 h38 h39 h40 hN ho hG hQ
    rw [List.drop_of_length_le (by omega)] at hQ
    obtain ⟨il, hil⟩ : ∃ x, x = Jtm.inLoop L19_6 := ⟨_, rfl⟩; rw [li_eq' il hil]
    simp -implicitDefEqProofs (disch := first | omega | with_unfolding_all exact eqR (Eq.refl _)) [nums, -getElem!_pos, -Int.natCast_add, -Int.natCast_mul, -Int.natCast_ediv, L19_6, S19_5, h6, h8, h9, h32, h33, h34, h38, h39, h40]
    subst hil
    try simp -implicitDefEqProofs (disch := first | omega | with_unfolding_all exact eqR (Eq.refl _)) [nums, -getElem!_pos, -Int.natCast_add, -Int.natCast_mul, -Int.natCast_ediv]
    refine hQ _ _ w ?_ ?_ ?_ ?_ hN ho hG <;> simp [h9, h32, h33, h34]
  | succ r ih =>
    intro j σ H w cur hr hj h6 h8 h9 h32 h33 h34 h38 h39 h40 hN ho hG hQ
    have hjl : j < P.length := by omega
    obtain ⟨p, e1, e2⟩ := rd_at (hP H ho) hjl
    have hex := hPe _ (List.getElem_mem hjl)
    have hnx := ho.next
    have hbs := ho.base
    rw [List.drop_eq_getElem_cons hjl, List.foldl_cons] at hQ
    have hG2 := (partF_good hm hmn hex hG).1
    have dA : Df (fun i => Hn.next ≤ i) H ((H.new (.cells Mo.zero.cells none)).set H.next (.cells (P[j]).cells none)) := (Df.refl.new _).set _ (.inr (Nat.le_refl _))
    have nA : ((H.new (.cells Mo.zero.cells none)).set H.next (.cells (P[j]).cells none)).next = H.next + 1 := rfl
    have bA : ((H.new (.cells Mo.zero.cells none)).set H.next (.cells (P[j]).cells none)).base = H.base := rfl
    have oA : ((H.new (.cells Mo.zero.cells none)).set H.next (.cells (P[j]).cells none)).obj H.next = .cells (P[j]).cells none := by simp [Heap.set, upd]
    have o8A : ((H.new (.cells Mo.zero.cells none)).set H.next (.cells (P[j]).cells none)).obj b8 = .cells m.cells none := by
      simp only [Heap.new, Heap.set, upd]; rw [if_neg (by omega), if_neg (by omega), ho.obj b8 hb8]; exact o8
    have hNA : NF (fun i => Hn.next ≤ i ∧ i ≠ H.next) ((H.new (.cells Mo.zero.cells none)).set H.next (.cells (P[j]).cells none)) w cur := hN.frame dA.next (fun i h1 h2 => by simp only [Heap.new, Heap.set, upd]; rw [if_neg (by omega), if_neg (by omega)]) fun i h h2 => ⟨h, by omega⟩
    have oAw := dA.ow ho hbn fun i h => h
    have o8H : H.obj b8 = .cells m.cells none := by rw [ho.obj b8 hb8]; exact o8
    have hlen := hB _ hG
    have hne : ¬ b8 = H.next := by omega
    obtain ⟨HA, hHA⟩ : ∃ x, x = (H.new (.cells Mo.zero.cells none)).set H.next (.cells (P[j]).cells none) := ⟨_, rfl⟩
    obtain ⟨ep, Hp, hcp, hHp, hep⟩ := call_67 (a := P[j]) (H := HA)
    subst hHp
    rw [hHA] at hcp
    have c64 := call_64 (call_68 (b := b8) (m := m)) (hep.rd ((H.new (.cells Mo.zero.cells none)).set H.next (.cells (P[j]).cells none))) (by rw [nA]; omega) o8A (by have := powL_len (a := P[j]); omega)
    by_cases hc : (powL P[j]).any (fun p => dvd p m) = true
    · have hpf : partF m cur P[j] = insF (cur ++ [P[j]]) := by unfold partF; rw [if_pos hc]
      rw [hpf] at hQ hG2
      rw [hc] at c64
      obtain ⟨il, hil⟩ : ∃ x, x = Jtm.inLoop L19_6 := ⟨_, rfl⟩; rw [li_eq' il hil]
      simp -implicitDefEqProofs (disch := first | omega | with_unfolding_all exact eqR (Eq.refl _)) [nums, -getElem!_pos, -Int.natCast_add, -Int.natCast_mul, -Int.natCast_ediv, L19_6, S19_5, h6, h8, h9, h32, h33, h34, h38, h39, h40, e1, e2, storeZ, ldM, hcp, c64]
      refine .call (call_69 (own := fun i => Hn.next ≤ i ∧ i ≠ H.next) hNA.acc (by omega) (fun i h => by rw [bA]; omega) (fun i h => by rw [nA] at h; omega) (by rw [bA, nA]; omega) (app_nn hG hex)) fun e H2 ⟨hN2, d2⟩ => ?_
      have d12 := dA.trans (Df.into d2 fun i h => h.1)
      simp -implicitDefEqProofs (disch := first | omega | with_unfolding_all exact eqR (Eq.refl _)) [nums, -getElem!_pos, -Int.natCast_add, -Int.natCast_mul, -Int.natCast_ediv, S19_4, h6, h8, h9, h32, h33, h34, h38, h39, h40]
      subst hil
      try simp -implicitDefEqProofs (disch := first | omega | with_unfolding_all exact eqR (Eq.refl _)) [nums, -getElem!_pos, -Int.natCast_add, -Int.natCast_mul, -Int.natCast_ediv]
      refine ih (j + 1) _ H2 e _ (by omega) (by omega) ?_ ?_ ?_ ?_ ?_ ?_ ?_ ?_ ?_ (hN2.frame (Nat.le_refl _) (fun _ _ _ => rfl) fun i h _ => h.1) (d12.ow ho hbn fun i h => h) hG2 hQ
      all_goals simp [h6, h8, h9, h32, h33, h34, h38, h39]
    · have hpf : partF m cur P[j] = varsF P[j] m cur (List.range 8) := by unfold partF; rw [if_neg hc]
      rw [hpf] at hQ hG2
      rw [Bool.not_eq_true] at hc
      rw [hc] at c64
      obtain ⟨il, hil⟩ : ∃ x, x = Jtm.inLoop L19_6 := ⟨_, rfl⟩; rw [li_eq' il hil]
      simp -implicitDefEqProofs (disch := first | omega | with_unfolding_all exact eqR (Eq.refl _)) [nums, -getElem!_pos, -Int.natCast_add, -Int.natCast_mul, -Int.natCast_ediv, L19_6, S19_5, h6, h8, h9, h32, h33, h34, h38, h39, h40, e1, e2, storeZ, ldM, hcp, c64, S19_3, o8H, hne]
      refine l19_2 (L := L) hB hm hmn hex (Hn := Hn) hbn (b11 := H.next) hnx (x6 := x6) (x8 := .ptr b8 0) (x32 := x32) (x33 := x33) (x34 := x34) (x38 := vp) (x39 := .int .i64 (P.length : Nat)) (x40 := .int .i64 (j : Nat)) _ 0 _ _ w cur rfl (by omega) ?_ ?_ ?_ ?_ ?_ ?_ ?_ ?_ ?_ ?_ ?_ ?_ hNA oAw (by rw [nA]; omega) oA hG fun σ1 H1 w1 g6 g8 g9 g32 g33 g34 g38 g39 g40 gN go gG => ?_
      any_goals (first | (simp [h6, h8, h9, h32, h33, h34, h38, h39, h40]; done) | skip)
      rw [List.drop_zero] at gN gG
      simp -implicitDefEqProofs (disch := first | omega | with_unfolding_all exact eqR (Eq.refl _)) [nums, -getElem!_pos, -Int.natCast_add, -Int.natCast_mul, -Int.natCast_ediv, S19_4, g6, g8, g9, g32, g33, g34, g38, g39, g40]
      subst hil
      try simp -implicitDefEqProofs (disch := first | omega | with_unfolding_all exact eqR (Eq.refl _)) [nums, -getElem!_pos, -Int.natCast_add, -Int.natCast_mul, -Int.natCast_ediv]
      refine ih (j + 1) _ H1 w1 _ (by omega) (by omega) ?_ ?_ ?_ ?_ ?_ ?_ ?_ ?_ ?_ (gN.frame (Nat.le_refl _) (fun _ _ _ => rfl) fun i h _ => h.1) go gG hQ
      all_goals simp [g6, g8, g9, g32, g33, g34, g38, g39]
theorem l19_10 {L : List Mo} (hB : ∀ r, Good L r → r.length ≤ 1000) {G : List Mo} (hG' : ∀ m ∈ G, m ∈ L ∧ m.nn) {vG : AV} (hv : ML tM vG G) (hGl : G.length < 2 ^ 40) {H0 : Heap} (hb0 : H0.base ≤ H0.next) : ∀ (r j : Nat) (σ : Sig) (H : Heap) (vp : AV) (P : List Mo), G.length - j = r → j ≤ G.length → σ 6 = vp → σ 32 = vG → σ 33 = .int .i64 (G.length : Nat) → σ 34 = .int .i64 (j : Nat) → ((ML tM vp P ∧ j = 0) ∨ NF (fun i => H0.next ≤ i) H vp P) → Ow H0 H → Good L P →
    (∀ σ' H' vp', σ' 6 = vp' → ((ML tM vp' ((G.drop j).foldl stepF P) ∧ G.length = 0) ∨ NF (fun i => H0.next ≤ i) H' vp' ((G.drop j).foldl stepF P)) → Ow H0 H' → Good L ((G.drop j).foldl stepF P) → Res (ai (callI tab) s k .nrm σ' H') Q) →
    Res (li (callI tab) L19_10 (.inBlock 0 :: s) k σ H) Q := by
  intro r
  induction r with
  | zero =>
    intro j σ H vp P hr hj h6 h32 h33 h34 hP ho hG hQ
    rw [List.drop_of_length_le (by omega)] at hQ
    obtain ⟨il, hil⟩ : ∃ x, x = Jtm.inLoop L19_10 := ⟨_, rfl⟩; rw [li_eq' il hil]
    simp -implicitDefEqProofs (disch := first | omega | with_unfolding_all exact eqR (Eq.refl _)) [nums, -getElem!_pos, -Int.natCast_add, -Int.natCast_mul, -Int.natCast_ediv, L19_10, S19_9, h6, h32, h33, h34]
    subst hil
    try simp -implicitDefEqProofs (disch := first | omega | with_unfolding_all exact eqR (Eq.refl _)) [nums, -getElem!_pos, -Int.natCast_add, -Int.natCast_mul, -Int.natCast_ediv]
    refine hQ _ _ vp ?_ (hP.imp (fun h => ⟨h.1, by omega⟩) id) ho hG
    simp [h6]
  | succ r ih =>
    intro j σ H vp P hr hj h6 h32 h33 h34 hP ho hG hQ
    have hjl : j < G.length := by omega
    obtain ⟨p, e1, e2⟩ := ml_at hv H hjl
    have hmG := hG' _ (List.getElem_mem hjl)
    have hnx := ho.next
    have hbs := ho.base
    have nA : ((H.new (.cells Mo.zero.cells none)).set H.next (.cells (G[j]).cells none)).next = H.next + 1 := rfl
    have bA : ((H.new (.cells Mo.zero.cells none)).set H.next (.cells (G[j]).cells none)).base = H.base := rfl
    have oA : ((H.new (.cells Mo.zero.cells none)).set H.next (.cells (G[j]).cells none)).obj H.next = .cells (G[j]).cells none := by simp [Heap.set, upd]
    have hStb : Stb ((H.new (.cells Mo.zero.cells none)).set H.next (.cells (G[j]).cells none)) vp P := by
      rcases hP with ⟨h, _⟩ | h
      · exact ML.stb h
      · have h2 : NF (fun i => H0.next ≤ i) ((H.new (.cells Mo.zero.cells none)).set H.next (.cells (G[j]).cells none)) vp P := h.frame (by rw [nA]; omega) (fun i h1 h2 => by simp only [Heap.new, Heap.set, upd]; rw [if_neg (by omega), if_neg (by omega)]) fun i h _ => h
        exact acc_stb (h2.acc.acc (H0 := H0) fun i h => h)
    have hlp := (hStb _ (.refl _)).1
    have hlen := hB _ hG
    have oAw : Ow H0 ((H.new (.cells Mo.zero.cells none)).set H.next (.cells (G[j]).cells none)) := (ho.new _).set _ hnx hb0
    have hst : (P.drop 0).foldl (partF G[j]) [] = stepF P G[j] := by rw [List.drop_zero]; rfl
    have hG2 := (stepF_good hmG.1 hmG.2 hG).1
    rw [List.drop_eq_getElem_cons hjl, List.foldl_cons] at hQ
    obtain ⟨il, hil⟩ : ∃ x, x = Jtm.inLoop L19_10 := ⟨_, rfl⟩; rw [li_eq' il hil]
    simp -implicitDefEqProofs (disch := first | omega | with_unfolding_all exact eqR (Eq.refl _)) [nums, -getElem!_pos, -Int.natCast_add, -Int.natCast_mul, -Int.natCast_ediv, L19_10, S19_9, h6, h32, h33, h34, e1, e2, storeZ, hlp]
    refine l19_6 (L := L) hB hmG.1 hmG.2 (Hn := (H.new (.cells Mo.zero.cells none)).set H.next (.cells (G[j]).cells none)) (by rw [nA, bA]; omega) (vp := vp) (P := P) hStb hG.exps hlen (b8 := H.next) (by rw [nA]; omega) oA (x6 := vp) (x32 := vG) (x33 := .int .i64 (G.length : Nat)) (x34 := .int .i64 (j : Nat)) _ 0 _ _ .nils [] rfl (by omega) ?_ ?_ ?_ ?_ ?_ ?_ ?_ ?_ ?_ (.inl ⟨rfl, rfl⟩) (.refl _) .nil fun σ1 H1 w1 g9 g32 g33 g34 gN go gG => ?_
    any_goals (first | (simp [h6, h32, h33, h34]; done) | skip)
    rw [hst] at gN gG
    simp -implicitDefEqProofs (disch := first | omega | with_unfolding_all exact eqR (Eq.refl _)) [nums, -getElem!_pos, -Int.natCast_add, -Int.natCast_mul, -Int.natCast_ediv, S19_7, S19_8, g9, g32, g33, g34]
    subst hil
    try simp -implicitDefEqProofs (disch := first | omega | with_unfolding_all exact eqR (Eq.refl _)) [nums, -getElem!_pos, -Int.natCast_add, -Int.natCast_mul, -Int.natCast_ediv]
    refine ih (j + 1) _ H1 w1 _ (by omega) (by omega) ?_ ?_ ?_ ?_ (.inr (gN.frame (Nat.le_refl _) (fun _ _ _ => rfl) fun i h _ => by rw [nA] at h; omega)) (oAw.trans go) gG hQ
    all_goals simp [g9, g32, g33, g34]
end
end Go.Mach.Ytl
set_option linter.unusedSimpArgs false
set_option linter.unusedVariables false
set_option maxRecDepth 100000
namespace Go.Mach.Ytl
open Go.Mach
section
variable {s : List Jtm} {k : KF} {Q : AV → Heap → Prop}
attribute [local simp] guardI_u
theorem call_109o {v f : AV} {H : Heap} : callI tab 73 [v, .int .i64 0, .int .i64 1, f] H = some (.tup [], H) := by
  refine callI_enter tab_109 (by simp [AF109]) (.inl rfl) ?_
  have e : IntKind.i64.wrap 1 = 1 := rfl
  simp -implicitDefEqProofs (disch := first | omega | with_unfolding_all exact eqR (Eq.refl _)) [nums, -getElem!_pos, -Int.natCast_add, -Int.natCast_mul, -Int.natCast_ediv, AF109, e]
  obtain ⟨il, hil⟩ : ∃ x, x = Jtm.inLoop L109_4 := ⟨_, rfl⟩; rw [li_eq' il hil]
  simp -implicitDefEqProofs (disch := first | omega | with_unfolding_all exact eqR (Eq.refl _)) [nums, -getElem!_pos, -Int.natCast_add, -Int.natCast_mul, -Int.natCast_ediv, L109_4]
  subst hil
  simp -implicitDefEqProofs (disch := first | omega | with_unfolding_all exact eqR (Eq.refl _)) [nums, -getElem!_pos, -Int.natCast_add, -Int.natCast_mul, -Int.natCast_ediv]
theorem call_100o {v f : AV} {n : Nat} {H : Heap} : callI tab 58 [v, .int .i64 0, .int .i64 1, .int .i64 n, f] H = some (.tup [], H) := by
  refine callI_enter tab_100 (by simp [AF100]) (.inl rfl) ?_
  have e : IntKind.i64.wrap 1 = 1 := rfl
  simp -implicitDefEqProofs (disch := first | omega | with_unfolding_all exact eqR (Eq.refl _)) [nums, -getElem!_pos, -Int.natCast_add, -Int.natCast_mul, -Int.natCast_ediv, AF100]
  obtain ⟨il, hil⟩ : ∃ x, x = Jtm.inLoop L100_6 := ⟨_, rfl⟩; rw [li_eq' il hil]
  simp -implicitDefEqProofs (disch := first | omega | with_unfolding_all exact eqR (Eq.refl _)) [nums, -getElem!_pos, -Int.natCast_add, -Int.natCast_mul, -Int.natCast_ediv, L100_6, call_109o, e]
  subst hil
  simp -implicitDefEqProofs (disch := first | omega | with_unfolding_all exact eqR (Eq.refl _)) [nums, -getElem!_pos, -Int.natCast_add, -Int.natCast_mul, -Int.natCast_ediv]
theorem call_70o {v f : AV} {H : Heap} (hv : ∀ H', lenA H' 1 v = some (.int .i64 1)) : callI tab 32 [v, f] H = some (.tup [], H) := by
  refine callI_enter tab_70 (by simp [AF70]) (.inl rfl) ?_
  have e : IntKind.u64.wrap 1 = 1 := rfl
  have hc : callI tab 59 [.int .u64 1] H.begin = some (.int .i64 (Sort.bitsLen 1), H.begin) := call_101 (x := 1) (by omega) (H := H.begin)
  have hz := call_100o (v := v) (f := f) (n := Sort.bitsLen 1) (H := H.begin)
  simp -implicitDefEqProofs (disch := first | omega | with_unfolding_all exact eqR (Eq.refl _)) [nums, -getElem!_pos, -Int.natCast_add, -Int.natCast_mul, -Int.natCast_ediv, AF70, hv, e, hc, hz]
theorem sorted_desc {d : Array Mo} (hs : Sort.SortedIn (ltc (fun a c => Mo.cmp c a)) 0 d.size d) (hn : d.toList.Nodup) : Desc d.toList := by
  refine List.pairwise_iff_getElem.2 fun i j hi hj hij => ?_
  have hi' : i < d.size := by simpa using hi
  have hj' : j < d.size := by simpa using hj
  have := hs i j (Nat.zero_le _) hij hj'
  rw [getElem!_pos d i hi', getElem!_pos d j hj'] at this
  simp only [ltc, decide_eq_false_iff_not] at this
  have hne : d[i] ≠ d[j] := by
    have := (List.pairwise_iff_getElem.1 hn) i j hi hj hij
    simpa using this
  simp only [Array.getElem_toList]
  rcases cmp_three d[i] d[j] with h | h | h
  · omega
  · exact absurd (cmp_eq.1 h) hne
  · exact h
structure Irr (L r : List Mo) : Prop where
  desc : Desc r
  good : Good L r
  sem : ∀ t, t.nn → ((∀ b ∈ r, inQ b t) ↔ ∃ m ∈ L, Mo.le m t)
theorem Good.perm {L r r' : List Mo} (h : Good L r) (hp : r'.Perm r) : Good L r' := ⟨hp.nodup_iff.2 h.nodup, fun b hb => h.exps b (hp.mem_iff.1 hb), fun b hb c hc => h.anti b (hp.mem_iff.1 hb) c (hp.mem_iff.1 hc)⟩
theorem call_19 {v : AV} {L : List Mo} {n : Nat} {H : Heap} (hv : ML tM v L) (hn : n ≤ 8) (hval : ∀ m ∈ L, m.valid ∧ ∀ q, q < 8 → n ≤ q → m.get q ≤ 0) (hL : L.length ≤ 8) (hB : ∀ r, Good L r → r.length ≤ 1000) : Res (callI tab 7 [v, .int .i64 n] H) fun e H' => H' = H ∧ ∃ w r, e = .tup [w, .int .i64 0] ∧ ML tM w r ∧ Irr L r := by
  have hf := hv.frz
  have hln := fun H => (hv.rd H).1
  have hany : (L.any fun m => !decide m.valid || decide (n < len8 (supN m))) = false := by
    rw [List.any_eq_false]
    intro m hm
    have := hval m hm
    have h2 := (len_sup (m := m) (n := n) (by omega)).2 this.2
    rw [decide_eq_true this.1]
    simp; omega
  have c64 := call_64 (b := H.next) (call_65 (n := n)) (H := H.begin.new (.cells [.int .i64 (n : Nat)] none)) (hv.rd _) (by show H.next < H.next + 1; omega) (by simp) (by omega)
  rw [hany] at c64
  have hf0 : fillA Mo.zero.cells [] = some Mo.zero.cells := rfl
  have hag : AV.agg Mo.zero.cells = mono Mo.zero := rfl
  have hn8 : ¬ (8 : Int) < (n : Nat) := by omega
  have hL8 : ¬ (8 : Int) < (L.length : Nat) := by omega
  refine .hide fun Q hQ => .enter tab_19 (by simp [AF19]) (.inr (by simp [hf])) ?_
  simp -implicitDefEqProofs (disch := first | omega | with_unfolding_all exact eqR (Eq.refl _)) [nums, -getElem!_pos, -Int.natCast_add, -Int.natCast_mul, -Int.natCast_ediv, AF19, load1, hn8, c64, S19_13, hln, hL8, S19_12, hf0, hag, bslR_mono]
  refine .call (call_49 hv (by omega)) fun e H1 ⟨hH, G, hG, hmin⟩ => ?_
  subst hH
  have hGl := hmin.len
  have hGm : ∀ m ∈ G, m ∈ L ∧ m.nn := fun m hm => ⟨hmin.sub hm, valid_nn (hval m (hmin.sub hm)).1⟩
  have hlg := fun H => (hG.rd H).1
  simp -implicitDefEqProofs (disch := first | omega | with_unfolding_all exact eqR (Eq.refl _)) [nums, -getElem!_pos, -Int.natCast_add, -Int.natCast_mul, -Int.natCast_ediv, hlg]
  refine l19_10 (L := L) hB hGm hG (by omega) (H0 := H.begin) (Nat.le_refl _) _ 0 _ _ (.vec 1 true Mo.zero.cells) [Mo.zero] rfl (by omega) ?_ ?_ ?_ ?_ (.inl ⟨.inr ⟨true, rfl⟩, rfl⟩) (.new (.refl _) _) .one fun σ' H' vp q6 hP ho hgood => ?_
  any_goals (first | (simp; done) | skip)
  rw [List.drop_zero] at hP hgood
  have hsem : ∀ t, t.nn → ((∀ b ∈ G.foldl stepF [Mo.zero], inQ b t) ↔ ∃ m ∈ L, Mo.le m t) := fun t ht => by
    show (∀ b ∈ irrF G, inQ b t) ↔ _
    rw [(irrF_good hGm).2 t ht]
    have := hmin.any_le (fun x hx => valid_nn (hval x hx).1) t
    rw [Bool.eq_iff_iff, List.any_eq_true, List.any_eq_true] at this
    simpa using this
  have hlenR := hB _ hgood
  have hz0 : G.length = 0 → G.foldl stepF [Mo.zero] = [Mo.zero] := fun h => by rw [List.length_eq_zero_iff.1 h]; rfl
  generalize hR : G.foldl stepF [Mo.zero] = R at *
  rcases hP with ⟨hml, hg0⟩ | ⟨hvp, hR0⟩ | ⟨hne, id, hvp, hob, hlt, hid⟩
  · have hR1 := hz0 hg0
    have h1 : ∀ H', lenA H' 1 vp = some (.int .i64 1) := fun H' => by have := (hml.rd H').1; rw [hR1] at this; exact this
    have hf := hml.frz
    have hnn := hml.nonew H.next 2
    have hws : H'.ws = [] := ho.ws
    have hq : (AV.tup [vp, .int .i64 0]).noNew H.next 4 = true := by simp [hnn]
    simp -implicitDefEqProofs (disch := first | omega | with_unfolding_all exact eqR (Eq.refl _)) [nums, -getElem!_pos, -Int.natCast_add, -Int.natCast_mul, -Int.natCast_ediv, S19_11, q6, call_70o h1, hf, wrap_quiet hws hq]
    exact .mk (hQ _ _ ⟨rfl, vp, R, rfl, hml, by rw [hR1]; simp [Desc], hgood, hsem⟩)
  · subst hvp hR0
    have h1 : ∀ H', lenA H' 1 .nils = some (.int .i64 0) := fun _ => rfl
    have hws : H'.ws = [] := ho.ws
    have hq : (AV.tup [.nils, .int .i64 0]).noNew H.next 4 = true := rfl
    simp -implicitDefEqProofs (disch := first | omega | with_unfolding_all exact eqR (Eq.refl _)) [nums, -getElem!_pos, -Int.natCast_add, -Int.natCast_mul, -Int.natCast_ediv, S19_11, q6, call_70z (h1 _) (fun _ => rfl), wrap_quiet hws hq]
    exact .mk (hQ _ _ ⟨rfl, .nils, [], rfl, .inl ⟨rfl, rfl⟩, .nil, hgood, hsem⟩)
  · subst hvp
    have hd : H'.obj id = .cells (tM.arr R.toArray) none := hob
    have hsz : R.toArray.size = R.length := by simp
    simp -implicitDefEqProofs (disch := first | omega | with_unfolding_all exact eqR (Eq.refl _)) [nums, -getElem!_pos, -Int.natCast_add, -Int.natCast_mul, -Int.natCast_ediv, S19_11, q6]
    refine .call (call_70 (lo := R.length) (ex := false) (len := R.length) call_71 swo_down hlt hd (by omega) (by omega) (by omega)) fun e H2 ⟨he, d', hp, hs, hw⟩ => ?_
    subst he
    have hsz' : d'.size = R.length := by rw [hp.1, hsz]
    have hz := frz_live (t := tM) (b := H.next) (m := 4) (id := id) (k := R.length) (lo := R.length) (ex := false) hw.at hid (by omega) (by omega)
    have htk : d'.toList.take R.length = d'.toList := List.take_of_length_le (by simp; omega)
    rw [show tM.e = 8 from rfl, htk] at hz
    have hperm : d'.toList.Perm R := by
      have := hp.2.2
      rw [Array.toList_extract, Array.toList_extract] at this
      simp only [List.extract_eq_take_drop, Nat.sub_zero, List.drop_zero] at this
      rw [htk, List.take_of_length_le (by simp)] at this
      exact this
    have hws : H2.ws = [] := by
      have h1 := hw.toFx.wsI
      have hb : H'.base = H.next := ho.base
      have hw0 : H'.ws = [] := ho.ws
      apply List.eq_nil_iff_forall_not_mem.2
      intro i hi
      rcases h1 i hi with h | ⟨h, h2⟩
      · rw [hw0] at h; cases h
      · rw [hb] at h2
        have : H.next ≤ id := hid
        omega
    have hws' : (H2.set id (.frz (tM.arr d'))).ws = [] := by
      have hb : H2.base = H.next := hw.base.trans ho.base
      simp only [Heap.set]
      rw [if_neg (by rw [hb]; have : H.next ≤ id := hid; omega)]
      exact hws
    have hz' : frz H.next 5 H2 (.sl id 0 R.length R.length false 8) = some (.vec R.length (false && R.length == R.length) (tM.row d'.toList), H2.set id (.frz (tM.arr d'))) := hz
    have hq : (AV.tup [.vec R.length (false && R.length == R.length) (tM.row d'.toList), .int .i64 0]).noNew H.next 4 = true := rfl
    have hmlr : ML tM (.vec R.length (false && R.length == R.length) (tM.row d'.toList)) d'.toList := .inr ⟨_, by rw [hperm.length_eq]⟩
    have hgr : Good L d'.toList := hgood.perm hperm
    have hirr : Irr L d'.toList := ⟨sorted_desc (by rw [hsz']; exact hs) hgr.nodup, hgr, fun t ht => by
      rw [← hsem t ht]
      exact ⟨fun h b hb => h b (hperm.mem_iff.2 hb), fun h b hb => h b (hperm.mem_iff.1 hb)⟩⟩
    generalize AV.vec R.length (false && R.length == R.length) (tM.row d'.toList) = vr at *
    simp -implicitDefEqProofs (disch := first | omega | with_unfolding_all exact eqR (Eq.refl _)) [nums, -getElem!_pos, -Int.natCast_add, -Int.natCast_mul, -Int.natCast_ediv, q6, hz', wrap_quiet hws' hq]
    exact .mk (hQ _ _ ⟨rfl, vr, d'.toList, rfl, hmlr, hirr⟩)
end
end Go.Mach.Ytl
