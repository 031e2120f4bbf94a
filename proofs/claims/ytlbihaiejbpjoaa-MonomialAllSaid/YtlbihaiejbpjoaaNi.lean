/-
  Sorting by insertion in part. By an AI agent.
-/
import Derived.Test.YtlbihaiejbpjoaaNh
set_option linter.unusedSimpArgs false
set_option linter.unusedVariables false
set_option maxRecDepth 100000
namespace Go.Mach.Ytl
open Go.Mach

section
variable {g id len lo : Nat} {ex : Bool} {c : Mo → Mo → Int} {s : List Jtm} {k : KF} {Q : AV → Heap → Prop}
theorem shiftDown_size {α : Type} [Inhabited α] (lt : α → α → Bool) (j : Nat) : ∀ (d : Array α), (Sort.shiftDown lt j d).size = d.size := by
  induction j with
  | zero => intro d; rfl
  | succ j ih => intro d; rw [Sort.shiftDown]; split <;> simp [ih, Sort.swp]
theorem shiftUp_size {α : Type} [Inhabited α] (lt : α → α → Bool) (b m : Nat) : ∀ j (d : Array α), b - j ≤ m → (Sort.shiftUp lt b j d).size = d.size := by
  induction m with
  | zero => intro j d h; rw [Sort.shiftUp, if_neg (by omega)]
  | succ m ih =>
    intro j d h
    rw [Sort.shiftUp]
    split
    · split
      · rfl
      · rw [ih _ _ (by omega), swp_size]
    · rfl
theorem scanSorted_bd {α : Type} [Inhabited α] (lt : α → α → Bool) (d : Array α) (b m : Nat) : ∀ i, b - i ≤ m → i ≤ b → i ≤ Sort.scanSorted lt d b i ∧ Sort.scanSorted lt d b i ≤ b := by
  induction m with
  | zero => intro i h hb; rw [Sort.scanSorted, if_neg (by simp only [Bool.and_eq_true, decide_eq_true_eq]; omega)]; omega
  | succ m ih =>
    intro i h hb
    rw [Sort.scanSorted]
    split
    · rename_i hc
      simp only [Bool.and_eq_true, decide_eq_true_eq] at hc
      have := ih (i + 1) (by omega) (by omega)
      omega
    · omega


theorem l114_1 (hc : CmpM g c) {a b q : Nat} {H : Heap} {d : Array Mo} : ∀ (m i : Nat) (σ : Sig), b - i = m → σ 0 = .sl id 0 len lo ex 8 → σ 1 = .int .i64 (a : Nat) → σ 2 = .int .i64 (b : Nat) → σ 3 = .fn g [] [] → σ 9 = .int .i64 (i : Nat) → σ 10 = .int .i64 (q : Nat) →
    id < H.next → H.obj id = .cells (tM.arr d) none → b ≤ len → 1 ≤ i → i < 2 ^ 41 → len ≤ d.size → d.size < 2 ^ 40 →
    (∀ σ', σ' 0 = .sl id 0 len lo ex 8 → σ' 1 = .int .i64 (a : Nat) → σ' 2 = .int .i64 (b : Nat) → σ' 3 = .fn g [] [] → σ' 9 = .int .i64 (Sort.scanSorted (ltc c) d b i : Nat) → σ' 10 = .int .i64 (q : Nat) → Res (ai (callI tab) s k .nrm σ' H) Q) →
    Res (li (callI tab) L114_1 (.inBlock 2 :: s) k σ H) Q := by
  intro m
  induction m with
  | zero =>
    intro i σ hm h0 h1 h2 h3 h9 h10 hid hd hb hp hi hl hs hQ
    have e : Sort.scanSorted (ltc c) d b i = i := by rw [Sort.scanSorted, if_neg (by simp only [Bool.and_eq_true, decide_eq_true_eq]; omega)]
    rw [e] at hQ
    obtain ⟨il, hil⟩ : ∃ x, x = Jtm.inLoop L114_1 := ⟨_, rfl⟩; rw [li_eq' il hil]
    simp -implicitDefEqProofs (disch := first | omega | with_unfolding_all exact eqR (Eq.refl _)) [nums, -getElem!_pos, -Int.natCast_add, -Int.natCast_mul, -Int.natCast_ediv, L114_1, S114_0, h0, h1, h2, h3, h9, h10, hd, hc _ _, loadM, storeM, storeM2]
    subst hil
    try simp -implicitDefEqProofs (disch := first | omega | with_unfolding_all exact eqR (Eq.refl _)) [nums, -getElem!_pos, -Int.natCast_add, -Int.natCast_mul, -Int.natCast_ediv]
    refine hQ _ ?_ ?_ ?_ ?_ ?_ ?_ <;> simp [h0, h1, h2, h3, h9, h10]
  | succ m ih =>
    intro i σ hm h0 h1 h2 h3 h9 h10 hid hd hb hp hi hl hs hQ
    by_cases c2 : c d[i]! d[i - 1]! < 0
    · have e : Sort.scanSorted (ltc c) d b i = i := by rw [Sort.scanSorted, if_neg (by simp [ltc, c2])]
      rw [e] at hQ
      obtain ⟨il, hil⟩ : ∃ x, x = Jtm.inLoop L114_1 := ⟨_, rfl⟩; rw [li_eq' il hil]
      simp -implicitDefEqProofs (disch := first | omega | with_unfolding_all exact eqR (Eq.refl _)) [nums, -getElem!_pos, -Int.natCast_add, -Int.natCast_mul, -Int.natCast_ediv, L114_1, S114_0, h0, h1, h2, h3, h9, h10, hd, hc _ _, loadM, storeM, storeM2]
      subst hil
      try simp -implicitDefEqProofs (disch := first | omega | with_unfolding_all exact eqR (Eq.refl _)) [nums, -getElem!_pos, -Int.natCast_add, -Int.natCast_mul, -Int.natCast_ediv]
      refine hQ _ ?_ ?_ ?_ ?_ ?_ ?_ <;> simp [h0, h1, h2, h3, h9, h10]
    · have e : Sort.scanSorted (ltc c) d b i = Sort.scanSorted (ltc c) d b (i + 1) := by rw [Sort.scanSorted, if_pos (by simp [ltc, c2]; omega)]
      rw [e] at hQ
      obtain ⟨il, hil⟩ : ∃ x, x = Jtm.inLoop L114_1 := ⟨_, rfl⟩; rw [li_eq' il hil]
      simp -implicitDefEqProofs (disch := first | omega | with_unfolding_all exact eqR (Eq.refl _)) [nums, -getElem!_pos, -Int.natCast_add, -Int.natCast_mul, -Int.natCast_ediv, L114_1, S114_0, h0, h1, h2, h3, h9, h10, hd, hc _ _, loadM, storeM, storeM2]
      subst hil
      try simp -implicitDefEqProofs (disch := first | omega | with_unfolding_all exact eqR (Eq.refl _)) [nums, -getElem!_pos, -Int.natCast_add, -Int.natCast_mul, -Int.natCast_ediv]
      refine ih (i + 1) _ (by omega) ?_ ?_ ?_ ?_ ?_ ?_ hid hd hb (by omega) (by omega) hl hs hQ
      all_goals simp [h0, h1, h2, h3, h9, h10]


theorem l114_5 (hc : CmpM g c) {a b q i : Nat} : ∀ (j : Nat) (σ : Sig) (H : Heap) (d : Array Mo), σ 0 = .sl id 0 len lo ex 8 → σ 1 = .int .i64 (a : Nat) → σ 2 = .int .i64 (b : Nat) → σ 3 = .fn g [] [] → σ 9 = .int .i64 (i : Nat) → σ 10 = .int .i64 (q : Nat) → σ 11 = .int .i64 (j : Nat) →
    id < H.next → H.obj id = .cells (tM.arr d) none → j < len → len ≤ d.size → d.size < 2 ^ 40 →
    (∀ σ' H', σ' 0 = .sl id 0 len lo ex 8 → σ' 1 = .int .i64 (a : Nat) → σ' 2 = .int .i64 (b : Nat) → σ' 3 = .fn g [] [] → σ' 9 = .int .i64 (i : Nat) → σ' 10 = .int .i64 (q : Nat) → Wr H H' id (.cells (tM.arr (Sort.shiftDown (ltc c) j d)) none) → Res (ai (callI tab) s k .nrm σ' H') Q) →
    Res (li (callI tab) L114_5 (.inBlock 4 :: s) k σ H) Q := by
  intro j
  induction j with
  | zero =>
    intro σ H d h0 h1 h2 h3 h9 h10 h11 hid hd hb hl hs hQ
    obtain ⟨il, hil⟩ : ∃ x, x = Jtm.inLoop L114_5 := ⟨_, rfl⟩; rw [li_eq' il hil]
    simp -implicitDefEqProofs (disch := first | omega | with_unfolding_all exact eqR (Eq.refl _)) [nums, -getElem!_pos, -Int.natCast_add, -Int.natCast_mul, -Int.natCast_ediv, L114_5, S114_4, h0, h1, h2, h3, h9, h10, h11, hd, hc _ _, loadM, storeM, storeM2]
    subst hil
    try simp -implicitDefEqProofs (disch := first | omega | with_unfolding_all exact eqR (Eq.refl _)) [nums, -getElem!_pos, -Int.natCast_add, -Int.natCast_mul, -Int.natCast_ediv]
    refine hQ _ _ ?_ ?_ ?_ ?_ ?_ ?_ (.refl hid hd) <;> simp [h0, h1, h2, h3, h9, h10, h11]
  | succ j ih =>
    intro σ H d h0 h1 h2 h3 h9 h10 h11 hid hd hb hl hs hQ
    by_cases c2 : c d[j + 1]! d[j]! < 0
    · have e : Sort.shiftDown (ltc c) (j + 1) d = Sort.shiftDown (ltc c) j (Sort.swp d (j + 1) j) := by rw [Sort.shiftDown, if_neg (by simp [ltc, c2])]
      rw [e] at hQ
      obtain ⟨il, hil⟩ : ∃ x, x = Jtm.inLoop L114_5 := ⟨_, rfl⟩; rw [li_eq' il hil]
      simp -implicitDefEqProofs (disch := first | omega | with_unfolding_all exact eqR (Eq.refl _)) [nums, -getElem!_pos, -Int.natCast_add, -Int.natCast_mul, -Int.natCast_ediv, L114_5, S114_4, S114_2, S114_3, h0, h1, h2, h3, h9, h10, h11, hd, hc _ _, loadM, storeM, storeM2]
      subst hil
      try simp -implicitDefEqProofs (disch := first | omega | with_unfolding_all exact eqR (Eq.refl _)) [nums, -getElem!_pos, -Int.natCast_add, -Int.natCast_mul, -Int.natCast_ediv]
      refine ih _ _ (Sort.swp d (j + 1) j) ?_ ?_ ?_ ?_ ?_ ?_ ?_ (by exact hid) ?_ (by omega) (by rw [swp_size]; exact hl) (by rw [swp_size]; exact hs) fun σ' H' t0 t1 t2 t3 t9 t10 hw => hQ σ' H' t0 t1 t2 t3 t9 t10 (.trans (.trans (.set hid) (.set hid)) hw)
      all_goals simp [h0, h1, h2, h3, h9, h10, h11, Sort.swp]
    · have e : Sort.shiftDown (ltc c) (j + 1) d = d := by rw [Sort.shiftDown, if_pos (by simp [ltc, c2])]
      rw [e] at hQ
      obtain ⟨il, hil⟩ : ∃ x, x = Jtm.inLoop L114_5 := ⟨_, rfl⟩; rw [li_eq' il hil]
      simp -implicitDefEqProofs (disch := first | omega | with_unfolding_all exact eqR (Eq.refl _)) [nums, -getElem!_pos, -Int.natCast_add, -Int.natCast_mul, -Int.natCast_ediv, L114_5, S114_4, S114_2, S114_3, h0, h1, h2, h3, h9, h10, h11, hd, hc _ _, loadM, storeM, storeM2]
      subst hil
      try simp -implicitDefEqProofs (disch := first | omega | with_unfolding_all exact eqR (Eq.refl _)) [nums, -getElem!_pos, -Int.natCast_add, -Int.natCast_mul, -Int.natCast_ediv]
      refine hQ _ _ ?_ ?_ ?_ ?_ ?_ ?_ (.refl hid hd) <;> simp [h0, h1, h2, h3, h9, h10, h11]


theorem l114_10 (hc : CmpM g c) {a b q i : Nat} : ∀ (m j : Nat) (σ : Sig) (H : Heap) (d : Array Mo), b - j = m → σ 0 = .sl id 0 len lo ex 8 → σ 1 = .int .i64 (a : Nat) → σ 2 = .int .i64 (b : Nat) → σ 3 = .fn g [] [] → σ 9 = .int .i64 (i : Nat) → σ 10 = .int .i64 (q : Nat) → σ 12 = .int .i64 (j : Nat) →
    id < H.next → H.obj id = .cells (tM.arr d) none → b ≤ len → 1 ≤ j → j < 2 ^ 41 → len ≤ d.size → d.size < 2 ^ 40 →
    (∀ σ' H', σ' 0 = .sl id 0 len lo ex 8 → σ' 1 = .int .i64 (a : Nat) → σ' 2 = .int .i64 (b : Nat) → σ' 3 = .fn g [] [] → σ' 9 = .int .i64 (i : Nat) → σ' 10 = .int .i64 (q : Nat) → Wr H H' id (.cells (tM.arr (Sort.shiftUp (ltc c) b j d)) none) → Res (ai (callI tab) s k .nrm σ' H') Q) →
    Res (li (callI tab) L114_10 (.inBlock 6 :: s) k σ H) Q := by
  intro m
  induction m with
  | zero =>
    intro j σ H d hm h0 h1 h2 h3 h9 h10 h12 hid hd hb hp hj hl hs hQ
    have e : Sort.shiftUp (ltc c) b j d = d := by rw [Sort.shiftUp, if_neg (by omega)]
    rw [e] at hQ
    obtain ⟨il, hil⟩ : ∃ x, x = Jtm.inLoop L114_10 := ⟨_, rfl⟩; rw [li_eq' il hil]
    simp -implicitDefEqProofs (disch := first | omega | with_unfolding_all exact eqR (Eq.refl _)) [nums, -getElem!_pos, -Int.natCast_add, -Int.natCast_mul, -Int.natCast_ediv, L114_10, S114_9, h0, h1, h2, h3, h9, h10, h12, hd, hc _ _, loadM, storeM, storeM2]
    subst hil
    try simp -implicitDefEqProofs (disch := first | omega | with_unfolding_all exact eqR (Eq.refl _)) [nums, -getElem!_pos, -Int.natCast_add, -Int.natCast_mul, -Int.natCast_ediv]
    refine hQ _ _ ?_ ?_ ?_ ?_ ?_ ?_ (.refl hid hd) <;> simp [h0, h1, h2, h3, h9, h10, h12]
  | succ m ih =>
    intro j σ H d hm h0 h1 h2 h3 h9 h10 h12 hid hd hb hp hj hl hs hQ
    by_cases c2 : c d[j]! d[j - 1]! < 0
    · have e : Sort.shiftUp (ltc c) b j d = Sort.shiftUp (ltc c) b (j + 1) (Sort.swp d j (j - 1)) := by rw [Sort.shiftUp, if_pos (by omega), if_neg (by simp [ltc, c2])]
      rw [e] at hQ
      obtain ⟨il, hil⟩ : ∃ x, x = Jtm.inLoop L114_10 := ⟨_, rfl⟩; rw [li_eq' il hil]
      simp -implicitDefEqProofs (disch := first | omega | with_unfolding_all exact eqR (Eq.refl _)) [nums, -getElem!_pos, -Int.natCast_add, -Int.natCast_mul, -Int.natCast_ediv, L114_10, S114_9, S114_7, S114_8, h0, h1, h2, h3, h9, h10, h12, hd, hc _ _, loadM, storeM, storeM2]
      subst hil
      try simp -implicitDefEqProofs (disch := first | omega | with_unfolding_all exact eqR (Eq.refl _)) [nums, -getElem!_pos, -Int.natCast_add, -Int.natCast_mul, -Int.natCast_ediv]
      refine ih (j + 1) _ _ (Sort.swp d j (j - 1)) (by omega) ?_ ?_ ?_ ?_ ?_ ?_ ?_ (by exact hid) ?_ hb (by omega) (by omega) (by rw [swp_size]; exact hl) (by rw [swp_size]; exact hs) fun σ' H' t0 t1 t2 t3 t9 t10 hw => hQ σ' H' t0 t1 t2 t3 t9 t10 (.trans (.trans (.set hid) (.set hid)) hw)
      all_goals simp [h0, h1, h2, h3, h9, h10, h12, Sort.swp]
    · have e : Sort.shiftUp (ltc c) b j d = d := by rw [Sort.shiftUp, if_pos (by omega), if_pos (by simp [ltc, c2])]
      rw [e] at hQ
      obtain ⟨il, hil⟩ : ∃ x, x = Jtm.inLoop L114_10 := ⟨_, rfl⟩; rw [li_eq' il hil]
      simp -implicitDefEqProofs (disch := first | omega | with_unfolding_all exact eqR (Eq.refl _)) [nums, -getElem!_pos, -Int.natCast_add, -Int.natCast_mul, -Int.natCast_ediv, L114_10, S114_9, S114_7, S114_8, h0, h1, h2, h3, h9, h10, h12, hd, hc _ _, loadM, storeM, storeM2]
      subst hil
      try simp -implicitDefEqProofs (disch := first | omega | with_unfolding_all exact eqR (Eq.refl _)) [nums, -getElem!_pos, -Int.natCast_add, -Int.natCast_mul, -Int.natCast_ediv]
      refine hQ _ _ ?_ ?_ ?_ ?_ ?_ ?_ (.refl hid hd) <;> simp [h0, h1, h2, h3, h9, h10, h12]


theorem s114_12 (hc : CmpM g c) {a b q i : Nat} (σ : Sig) (H : Heap) (d : Array Mo) : σ 0 = .sl id 0 len lo ex 8 → σ 1 = .int .i64 (a : Nat) → σ 2 = .int .i64 (b : Nat) → σ 3 = .fn g [] [] → σ 9 = .int .i64 (i : Nat) → σ 10 = .int .i64 (q : Nat) →
    id < H.next → H.obj id = .cells (tM.arr d) none → b ≤ len → 1 ≤ i → i ≤ b → len ≤ d.size → d.size < 2 ^ 40 →
    (∀ σ' H', σ' 0 = .sl id 0 len lo ex 8 → σ' 1 = .int .i64 (a : Nat) → σ' 2 = .int .i64 (b : Nat) → σ' 3 = .fn g [] [] → σ' 9 = .int .i64 (i : Nat) → σ' 10 = .int .i64 (q : Nat) → Wr H H' id (.cells (tM.arr (Sort.fixUp (ltc c) b i d)) none) → Res (ai (callI tab) s k .nrm σ' H') Q) →
    Res (gi (callI tab) S114_12 s k σ H) Q := by
  intro h0 h1 h2 h3 h9 h10 hid hd hb hp hi hl hs hQ
  unfold Sort.fixUp at hQ
  by_cases c1 : 2 ≤ b - i
  · rw [if_pos c1] at hQ
    simp -implicitDefEqProofs (disch := first | omega | with_unfolding_all exact eqR (Eq.refl _)) [nums, -getElem!_pos, -Int.natCast_add, -Int.natCast_mul, -Int.natCast_ediv, S114_12, S114_11, h0, h1, h2, h3, h9, h10]
    refine l114_10 (len := len) (lo := lo) (ex := ex) hc _ (i + 1) _ H d rfl ?_ ?_ ?_ ?_ ?_ ?_ ?_ hid hd hb (by omega) (by omega) hl hs hQ
    all_goals simp [h0, h1, h2, h3, h9, h10]
  · rw [if_neg c1] at hQ
    simp -implicitDefEqProofs (disch := first | omega | with_unfolding_all exact eqR (Eq.refl _)) [nums, -getElem!_pos, -Int.natCast_add, -Int.natCast_mul, -Int.natCast_ediv, S114_12, S114_11, h0, h1, h2, h3, h9, h10]
    refine hQ _ _ ?_ ?_ ?_ ?_ ?_ ?_ (.refl hid hd) <;> simp [h0, h1, h2, h3, h9, h10]
theorem s114_13 (hc : CmpM g c) {a b q i : Nat} (σ : Sig) (H : Heap) (d : Array Mo) : σ 0 = .sl id 0 len lo ex 8 → σ 1 = .int .i64 (a : Nat) → σ 2 = .int .i64 (b : Nat) → σ 3 = .fn g [] [] → σ 9 = .int .i64 (i : Nat) → σ 10 = .int .i64 (q : Nat) →
    id < H.next → H.obj id = .cells (tM.arr d) none → b ≤ len → a < i → i < b → len ≤ d.size → d.size < 2 ^ 40 →
    (∀ σ' H', σ' 0 = .sl id 0 len lo ex 8 → σ' 1 = .int .i64 (a : Nat) → σ' 2 = .int .i64 (b : Nat) → σ' 3 = .fn g [] [] → σ' 9 = .int .i64 (i : Nat) → σ' 10 = .int .i64 (q : Nat) → Wr H H' id (.cells (tM.arr (Sort.fixUp (ltc c) b i (Sort.fixDown (ltc c) a i (Sort.swp d i (i - 1))))) none) → Res (ai (callI tab) s k .nrm σ' H') Q) →
    Res (gi (callI tab) S114_13 s k σ H) Q := by
  intro h0 h1 h2 h3 h9 h10 hid hd hb hp hi hl hs hQ
  unfold Sort.fixDown at hQ
  by_cases c1 : 2 ≤ i - a
  · rw [if_pos c1] at hQ
    simp -implicitDefEqProofs (disch := first | omega | with_unfolding_all exact eqR (Eq.refl _)) [nums, -getElem!_pos, -Int.natCast_add, -Int.natCast_mul, -Int.natCast_ediv, S114_13, S114_6, h0, h1, h2, h3, h9, h10, hd, loadM, storeM, storeM2]
    refine l114_5 (len := len) (lo := lo) (ex := ex) (a := a) (b := b) (q := q) (i := i) hc (i - 1) _ _ (Sort.swp d i (i - 1)) ?_ ?_ ?_ ?_ ?_ ?_ ?_ (by exact hid) ?_ (by omega) (by rw [swp_size]; exact hl) (by rw [swp_size]; exact hs) fun σ' H' t0 t1 t2 t3 t9 t10 hw => ?_
    any_goals (first | (simp [h0, h1, h2, h3, h9, h10, Sort.swp]; done) | skip)
    simp -implicitDefEqProofs (disch := first | omega | with_unfolding_all exact eqR (Eq.refl _)) [nums, -getElem!_pos, -Int.natCast_add, -Int.natCast_mul, -Int.natCast_ediv]
    refine s114_12 (len := len) (lo := lo) (ex := ex) hc σ' H' _ t0 t1 t2 t3 t9 t10 (by rw [hw.nxt]; exact hid) hw.at hb (by omega) (by omega) (by rw [shiftDown_size, swp_size]; exact hl) (by rw [shiftDown_size, swp_size]; exact hs) fun σ2 H2 t0 t1 t2 t3 t9 t10 hw2 => hQ σ2 H2 t0 t1 t2 t3 t9 t10 ((Wr.trans (.trans (.set hid) (.set hid)) hw).trans hw2)
  · rw [if_neg c1] at hQ
    simp -implicitDefEqProofs (disch := first | omega | with_unfolding_all exact eqR (Eq.refl _)) [nums, -getElem!_pos, -Int.natCast_add, -Int.natCast_mul, -Int.natCast_ediv, S114_13, S114_6, h0, h1, h2, h3, h9, h10, hd, loadM, storeM, storeM2]
    refine s114_12 (len := len) (lo := lo) (ex := ex) hc _ _ (Sort.swp d i (i - 1)) ?_ ?_ ?_ ?_ ?_ ?_ (by exact hid) ?_ hb (by omega) (by omega) (by rw [swp_size]; exact hl) (by rw [swp_size]; exact hs) fun σ2 H2 t0 t1 t2 t3 t9 t10 hw2 => hQ σ2 H2 t0 t1 t2 t3 t9 t10 (Wr.trans (.trans (.set hid) (.set hid)) hw2)
    all_goals simp [h0, h1, h2, h3, h9, h10, Sort.swp]


theorem l114_18 (hc : CmpM g c) {a b : Nat} (H0 : Heap) : ∀ (u i : Nat) (σ : Sig) (H : Heap) (d : Array Mo), u ≤ 5 → σ 0 = .sl id 0 len lo ex 8 → σ 1 = .int .i64 (a : Nat) → σ 2 = .int .i64 (b : Nat) → σ 3 = .fn g [] [] → σ 9 = .int .i64 (i : Nat) → σ 10 = .int .i64 ((5 - u : Nat) : Nat) →
    id < H.next → H.obj id = .cells (tM.arr d) none → b ≤ len → a < i → i ≤ b → len ≤ d.size → d.size < 2 ^ 40 →
    (∀ H', Wr H H' id (.cells (tM.arr (Sort.partialIns (ltc c) a b u i d).1) none) → Res (some (wrapA H0 (.bool (Sort.partialIns (ltc c) a b u i d).2) H')) Q) →
    Res (li (callI tab) L114_18 [.inBlock 0, .code S114_19] (fink [.tmp 8] false H0) σ H) Q := by
  intro u
  induction u with
  | zero =>
    intro i σ H d hu h0 h1 h2 h3 h9 h10 hid hd hb hp hi hl hs hQ
    obtain ⟨il, hil⟩ : ∃ x, x = Jtm.inLoop L114_18 := ⟨_, rfl⟩; rw [li_eq' il hil]
    simp -implicitDefEqProofs (disch := first | omega | with_unfolding_all exact eqR (Eq.refl _)) [nums, -getElem!_pos, -Int.natCast_add, -Int.natCast_mul, -Int.natCast_ediv, L114_18, S114_17, h0, h1, h2, h3, h9, h10, S114_19]
    subst hil
    try simp -implicitDefEqProofs (disch := first | omega | with_unfolding_all exact eqR (Eq.refl _)) [nums, -getElem!_pos, -Int.natCast_add, -Int.natCast_mul, -Int.natCast_ediv, S114_19]
    exact hQ _ (.refl hid hd)
  | succ u ih =>
    intro i σ H d hu h0 h1 h2 h3 h9 h10 hid hd hb hp hi hl hs hQ
    rw [Sort.partialIns_succ] at hQ
    have bd := scanSorted_bd (ltc c) d b _ i (Nat.le_refl _) hi
    obtain ⟨il, hil⟩ : ∃ x, x = Jtm.inLoop L114_18 := ⟨_, rfl⟩; rw [li_eq' il hil]
    simp -implicitDefEqProofs (disch := first | omega | with_unfolding_all exact eqR (Eq.refl _)) [nums, -getElem!_pos, -Int.natCast_add, -Int.natCast_mul, -Int.natCast_ediv, L114_18, S114_17, h0, h1, h2, h3, h9, h10]
    refine l114_1 (len := len) (lo := lo) (ex := ex) (a := a) (q := 5 - (u + 1)) hc _ i _ rfl ?_ ?_ ?_ ?_ ?_ ?_ hid hd hb (by omega) (by omega) hl hs fun σ' t0 t1 t2 t3 t9 t10 => ?_
    any_goals (first | (simp [h0, h1, h2, h3, h9, h10]; done) | skip)
    generalize Sort.scanSorted (ltc c) d b i = k at *
    by_cases c1 : k = b
    · rw [if_pos c1] at hQ
      simp -implicitDefEqProofs (disch := first | omega | with_unfolding_all exact eqR (Eq.refl _)) [nums, -getElem!_pos, -Int.natCast_add, -Int.natCast_mul, -Int.natCast_ediv, S114_15, t0, t1, t2, t3, t9, t10]
      subst hil
      try simp -implicitDefEqProofs (disch := first | omega | with_unfolding_all exact eqR (Eq.refl _)) [nums, -getElem!_pos, -Int.natCast_add, -Int.natCast_mul, -Int.natCast_ediv]
      exact hQ _ (.refl hid hd)
    · rw [if_neg c1] at hQ
      by_cases c2 : b - a < 50
      · rw [if_pos c2] at hQ
        simp -implicitDefEqProofs (disch := first | omega | with_unfolding_all exact eqR (Eq.refl _)) [nums, -getElem!_pos, -Int.natCast_add, -Int.natCast_mul, -Int.natCast_ediv, S114_15, S114_14, t0, t1, t2, t3, t9, t10]
        subst hil
        try simp -implicitDefEqProofs (disch := first | omega | with_unfolding_all exact eqR (Eq.refl _)) [nums, -getElem!_pos, -Int.natCast_add, -Int.natCast_mul, -Int.natCast_ediv]
        exact hQ _ (.refl hid hd)
      · rw [if_neg c2] at hQ
        simp -implicitDefEqProofs (disch := first | omega | with_unfolding_all exact eqR (Eq.refl _)) [nums, -getElem!_pos, -Int.natCast_add, -Int.natCast_mul, -Int.natCast_ediv, S114_15, S114_14, t0, t1, t2, t3, t9, t10]
        refine s114_13 (len := len) (lo := lo) (ex := ex) (a := a) (b := b) (i := k) (q := 5 - (u + 1)) hc _ H d ?_ ?_ ?_ ?_ ?_ ?_ hid hd hb (by omega) (by omega) hl hs fun σ2 H2 u0 u1 u2 u3 u9 u10 hw => ?_
        any_goals (first | (simp [t0, t1, t2, t3, t9, t10]; done) | skip)
        have hsz : (Sort.fixUp (ltc c) b k (Sort.fixDown (ltc c) a k (Sort.swp d k (k - 1)))).size = d.size := by
          unfold Sort.fixUp Sort.fixDown
          split <;> split <;> simp [shiftUp_size _ _ _ _ _ (Nat.le_refl _), shiftDown_size, swp_size]
        simp -implicitDefEqProofs (disch := first | omega | with_unfolding_all exact eqR (Eq.refl _)) [nums, -getElem!_pos, -Int.natCast_add, -Int.natCast_mul, -Int.natCast_ediv, S114_16, u0, u1, u2, u3, u9, u10]
        subst hil
        try simp -implicitDefEqProofs (disch := first | omega | with_unfolding_all exact eqR (Eq.refl _)) [nums, -getElem!_pos, -Int.natCast_add, -Int.natCast_mul, -Int.natCast_ediv]
        refine ih k _ _ _ (by omega) ?_ ?_ ?_ ?_ ?_ ?_ (by rw [hw.nxt]; exact hid) hw.at hb (by omega) (by omega) (by rw [hsz]; exact hl) (by rw [hsz]; exact hs) fun H' hw' => hQ H' (hw.trans hw')
        all_goals (first | (simp [u0, u1, u2, u3, u9, u10]; done) | (simp [u0, u1, u2, u3, u9, u10]; omega))

theorem call_114 (hc : CmpM g c) {a b : Nat} {H : Heap} {d : Array Mo} (hid : id < H.next) (hd : H.obj id = (.cells (tM.arr d) none)) (hb : b ≤ len) (ha : a < b) (hl : len ≤ d.size) (hs : d.size < 2 ^ 40) :
    Res (callI tab 114 [.sl id 0 len lo ex 8, .int .i64 a, .int .i64 b, .fn g [] []] H) fun v H' => v = .bool (Sort.partialInsertionSort (ltc c) d a b).2 ∧ Wr H H' id (.cells (tM.arr (Sort.partialInsertionSort (ltc c) d a b).1) none) := by
  refine .hide fun Q hQ => .enter tab_114 (by simp [AF114]) (.inl rfl) ?_
  simp -implicitDefEqProofs (disch := first | omega | with_unfolding_all exact eqR (Eq.refl _)) [nums, -getElem!_pos, -Int.natCast_add, -Int.natCast_mul, -Int.natCast_ediv, AF114]
  refine l114_18 (len := len) (lo := lo) (ex := ex) (a := a) (b := b) hc H 5 (a + 1) _ _ d (Nat.le_refl _) ?_ ?_ ?_ ?_ ?_ ?_ hid hd hb (by omega) (by omega) hl hs fun H' hw => ?_
  any_goals (first | (simp; done) | skip)
  obtain ⟨H2, e, w⟩ := hw.toFx.wrapA (H := H) (v := .bool _) rfl
  rw [e]
  exact .mk (hQ _ _ ⟨rfl, w⟩)


theorem l134_1 {a b q : Nat} {H : Heap} {d : Array Int} : ∀ (m i : Nat) (σ : Sig), b - i = m → σ 0 = .sl id 0 len lo ex 1 → σ 1 = .int .i64 (a : Nat) → σ 2 = .int .i64 (b : Nat) → σ 7 = .int .i64 (i : Nat) → σ 8 = .int .i64 (q : Nat) →
    id < H.next → H.obj id = .cells (tB.arr d) none → b ≤ len → 1 ≤ i → i < 2 ^ 41 → len ≤ d.size → d.size < 2 ^ 40 →
    (∀ σ', σ' 0 = .sl id 0 len lo ex 1 → σ' 1 = .int .i64 (a : Nat) → σ' 2 = .int .i64 (b : Nat) → σ' 7 = .int .i64 (Sort.scanSorted ltB d b i : Nat) → σ' 8 = .int .i64 (q : Nat) → Res (ai (callI tab) s k .nrm σ' H) Q) →
    Res (li (callI tab) L134_1 (.inBlock 2 :: s) k σ H) Q := by
  intro m
  induction m with
  | zero =>
    intro i σ hm h0 h1 h2 h9 h10 hid hd hb hp hi hl hs hQ
    have e : Sort.scanSorted ltB d b i = i := by rw [Sort.scanSorted, if_neg (by simp only [Bool.and_eq_true, decide_eq_true_eq]; omega)]
    rw [e] at hQ
    obtain ⟨il, hil⟩ : ∃ x, x = Jtm.inLoop L134_1 := ⟨_, rfl⟩; rw [li_eq' il hil]
    simp -implicitDefEqProofs (disch := first | omega | with_unfolding_all exact eqR (Eq.refl _)) [nums, -getElem!_pos, -Int.natCast_add, -Int.natCast_mul, -Int.natCast_ediv, L134_1, S134_0, h0, h1, h2, h9, h10, hd, call_135, loadB, storeB, storeB2]
    subst hil
    try simp -implicitDefEqProofs (disch := first | omega | with_unfolding_all exact eqR (Eq.refl _)) [nums, -getElem!_pos, -Int.natCast_add, -Int.natCast_mul, -Int.natCast_ediv]
    refine hQ _ ?_ ?_ ?_ ?_ ?_ <;> simp [h0, h1, h2, h9, h10]
  | succ m ih =>
    intro i σ hm h0 h1 h2 h9 h10 hid hd hb hp hi hl hs hQ
    by_cases c2 : d[i]! < d[i - 1]!
    · have e : Sort.scanSorted ltB d b i = i := by rw [Sort.scanSorted, if_neg (by simp [ltB, c2])]
      rw [e] at hQ
      obtain ⟨il, hil⟩ : ∃ x, x = Jtm.inLoop L134_1 := ⟨_, rfl⟩; rw [li_eq' il hil]
      simp -implicitDefEqProofs (disch := first | omega | with_unfolding_all exact eqR (Eq.refl _)) [nums, -getElem!_pos, -Int.natCast_add, -Int.natCast_mul, -Int.natCast_ediv, L134_1, S134_0, h0, h1, h2, h9, h10, hd, call_135, loadB, storeB, storeB2]
      subst hil
      try simp -implicitDefEqProofs (disch := first | omega | with_unfolding_all exact eqR (Eq.refl _)) [nums, -getElem!_pos, -Int.natCast_add, -Int.natCast_mul, -Int.natCast_ediv]
      refine hQ _ ?_ ?_ ?_ ?_ ?_ <;> simp [h0, h1, h2, h9, h10]
    · have e : Sort.scanSorted ltB d b i = Sort.scanSorted ltB d b (i + 1) := by rw [Sort.scanSorted, if_pos (by simp [ltB, c2]; omega)]
      rw [e] at hQ
      obtain ⟨il, hil⟩ : ∃ x, x = Jtm.inLoop L134_1 := ⟨_, rfl⟩; rw [li_eq' il hil]
      simp -implicitDefEqProofs (disch := first | omega | with_unfolding_all exact eqR (Eq.refl _)) [nums, -getElem!_pos, -Int.natCast_add, -Int.natCast_mul, -Int.natCast_ediv, L134_1, S134_0, h0, h1, h2, h9, h10, hd, call_135, loadB, storeB, storeB2]
      subst hil
      try simp -implicitDefEqProofs (disch := first | omega | with_unfolding_all exact eqR (Eq.refl _)) [nums, -getElem!_pos, -Int.natCast_add, -Int.natCast_mul, -Int.natCast_ediv]
      refine ih (i + 1) _ (by omega) ?_ ?_ ?_ ?_ ?_ hid hd hb (by omega) (by omega) hl hs hQ
      all_goals simp [h0, h1, h2, h9, h10]


theorem l134_5 {a b q i : Nat} : ∀ (j : Nat) (σ : Sig) (H : Heap) (d : Array Int), σ 0 = .sl id 0 len lo ex 1 → σ 1 = .int .i64 (a : Nat) → σ 2 = .int .i64 (b : Nat) → σ 7 = .int .i64 (i : Nat) → σ 8 = .int .i64 (q : Nat) → σ 9 = .int .i64 (j : Nat) →
    id < H.next → H.obj id = .cells (tB.arr d) none → j < len → len ≤ d.size → d.size < 2 ^ 40 →
    (∀ σ' H', σ' 0 = .sl id 0 len lo ex 1 → σ' 1 = .int .i64 (a : Nat) → σ' 2 = .int .i64 (b : Nat) → σ' 7 = .int .i64 (i : Nat) → σ' 8 = .int .i64 (q : Nat) → Wr H H' id (.cells (tB.arr (Sort.shiftDown ltB j d)) none) → Res (ai (callI tab) s k .nrm σ' H') Q) →
    Res (li (callI tab) L134_5 (.inBlock 4 :: s) k σ H) Q := by
  intro j
  induction j with
  | zero =>
    intro σ H d h0 h1 h2 h9 h10 h11 hid hd hb hl hs hQ
    obtain ⟨il, hil⟩ : ∃ x, x = Jtm.inLoop L134_5 := ⟨_, rfl⟩; rw [li_eq' il hil]
    simp -implicitDefEqProofs (disch := first | omega | with_unfolding_all exact eqR (Eq.refl _)) [nums, -getElem!_pos, -Int.natCast_add, -Int.natCast_mul, -Int.natCast_ediv, L134_5, S134_4, h0, h1, h2, h9, h10, h11, hd, call_135, loadB, storeB, storeB2]
    subst hil
    try simp -implicitDefEqProofs (disch := first | omega | with_unfolding_all exact eqR (Eq.refl _)) [nums, -getElem!_pos, -Int.natCast_add, -Int.natCast_mul, -Int.natCast_ediv]
    refine hQ _ _ ?_ ?_ ?_ ?_ ?_ (.refl hid hd) <;> simp [h0, h1, h2, h9, h10, h11]
  | succ j ih =>
    intro σ H d h0 h1 h2 h9 h10 h11 hid hd hb hl hs hQ
    by_cases c2 : d[j + 1]! < d[j]!
    · have e : Sort.shiftDown ltB (j + 1) d = Sort.shiftDown ltB j (Sort.swp d (j + 1) j) := by rw [Sort.shiftDown, if_neg (by simp [ltB, c2])]
      rw [e] at hQ
      obtain ⟨il, hil⟩ : ∃ x, x = Jtm.inLoop L134_5 := ⟨_, rfl⟩; rw [li_eq' il hil]
      simp -implicitDefEqProofs (disch := first | omega | with_unfolding_all exact eqR (Eq.refl _)) [nums, -getElem!_pos, -Int.natCast_add, -Int.natCast_mul, -Int.natCast_ediv, L134_5, S134_4, S134_2, S134_3, h0, h1, h2, h9, h10, h11, hd, call_135, loadB, storeB, storeB2]
      subst hil
      try simp -implicitDefEqProofs (disch := first | omega | with_unfolding_all exact eqR (Eq.refl _)) [nums, -getElem!_pos, -Int.natCast_add, -Int.natCast_mul, -Int.natCast_ediv]
      refine ih _ _ (Sort.swp d (j + 1) j) ?_ ?_ ?_ ?_ ?_ ?_ (by exact hid) ?_ (by omega) (by rw [swp_size]; exact hl) (by rw [swp_size]; exact hs) fun σ' H' t0 t1 t2 t9 t10 hw => hQ σ' H' t0 t1 t2 t9 t10 (.trans (.trans (.set hid) (.set hid)) hw)
      all_goals simp [h0, h1, h2, h9, h10, h11, Sort.swp]
    · have e : Sort.shiftDown ltB (j + 1) d = d := by rw [Sort.shiftDown, if_pos (by simp [ltB, c2])]
      rw [e] at hQ
      obtain ⟨il, hil⟩ : ∃ x, x = Jtm.inLoop L134_5 := ⟨_, rfl⟩; rw [li_eq' il hil]
      simp -implicitDefEqProofs (disch := first | omega | with_unfolding_all exact eqR (Eq.refl _)) [nums, -getElem!_pos, -Int.natCast_add, -Int.natCast_mul, -Int.natCast_ediv, L134_5, S134_4, S134_2, S134_3, h0, h1, h2, h9, h10, h11, hd, call_135, loadB, storeB, storeB2]
      subst hil
      try simp -implicitDefEqProofs (disch := first | omega | with_unfolding_all exact eqR (Eq.refl _)) [nums, -getElem!_pos, -Int.natCast_add, -Int.natCast_mul, -Int.natCast_ediv]
      refine hQ _ _ ?_ ?_ ?_ ?_ ?_ (.refl hid hd) <;> simp [h0, h1, h2, h9, h10, h11]


theorem l134_10 {a b q i : Nat} : ∀ (m j : Nat) (σ : Sig) (H : Heap) (d : Array Int), b - j = m → σ 0 = .sl id 0 len lo ex 1 → σ 1 = .int .i64 (a : Nat) → σ 2 = .int .i64 (b : Nat) → σ 7 = .int .i64 (i : Nat) → σ 8 = .int .i64 (q : Nat) → σ 10 = .int .i64 (j : Nat) →
    id < H.next → H.obj id = .cells (tB.arr d) none → b ≤ len → 1 ≤ j → j < 2 ^ 41 → len ≤ d.size → d.size < 2 ^ 40 →
    (∀ σ' H', σ' 0 = .sl id 0 len lo ex 1 → σ' 1 = .int .i64 (a : Nat) → σ' 2 = .int .i64 (b : Nat) → σ' 7 = .int .i64 (i : Nat) → σ' 8 = .int .i64 (q : Nat) → Wr H H' id (.cells (tB.arr (Sort.shiftUp ltB b j d)) none) → Res (ai (callI tab) s k .nrm σ' H') Q) →
    Res (li (callI tab) L134_10 (.inBlock 6 :: s) k σ H) Q := by
  intro m
  induction m with
  | zero =>
    intro j σ H d hm h0 h1 h2 h9 h10 h12 hid hd hb hp hj hl hs hQ
    have e : Sort.shiftUp ltB b j d = d := by rw [Sort.shiftUp, if_neg (by omega)]
    rw [e] at hQ
    obtain ⟨il, hil⟩ : ∃ x, x = Jtm.inLoop L134_10 := ⟨_, rfl⟩; rw [li_eq' il hil]
    simp -implicitDefEqProofs (disch := first | omega | with_unfolding_all exact eqR (Eq.refl _)) [nums, -getElem!_pos, -Int.natCast_add, -Int.natCast_mul, -Int.natCast_ediv, L134_10, S134_9, h0, h1, h2, h9, h10, h12, hd, call_135, loadB, storeB, storeB2]
    subst hil
    try simp -implicitDefEqProofs (disch := first | omega | with_unfolding_all exact eqR (Eq.refl _)) [nums, -getElem!_pos, -Int.natCast_add, -Int.natCast_mul, -Int.natCast_ediv]
    refine hQ _ _ ?_ ?_ ?_ ?_ ?_ (.refl hid hd) <;> simp [h0, h1, h2, h9, h10, h12]
  | succ m ih =>
    intro j σ H d hm h0 h1 h2 h9 h10 h12 hid hd hb hp hj hl hs hQ
    by_cases c2 : d[j]! < d[j - 1]!
    · have e : Sort.shiftUp ltB b j d = Sort.shiftUp ltB b (j + 1) (Sort.swp d j (j - 1)) := by rw [Sort.shiftUp, if_pos (by omega), if_neg (by simp [ltB, c2])]
      rw [e] at hQ
      obtain ⟨il, hil⟩ : ∃ x, x = Jtm.inLoop L134_10 := ⟨_, rfl⟩; rw [li_eq' il hil]
      simp -implicitDefEqProofs (disch := first | omega | with_unfolding_all exact eqR (Eq.refl _)) [nums, -getElem!_pos, -Int.natCast_add, -Int.natCast_mul, -Int.natCast_ediv, L134_10, S134_9, S134_7, S134_8, h0, h1, h2, h9, h10, h12, hd, call_135, loadB, storeB, storeB2]
      subst hil
      try simp -implicitDefEqProofs (disch := first | omega | with_unfolding_all exact eqR (Eq.refl _)) [nums, -getElem!_pos, -Int.natCast_add, -Int.natCast_mul, -Int.natCast_ediv]
      refine ih (j + 1) _ _ (Sort.swp d j (j - 1)) (by omega) ?_ ?_ ?_ ?_ ?_ ?_ (by exact hid) ?_ hb (by omega) (by omega) (by rw [swp_size]; exact hl) (by rw [swp_size]; exact hs) fun σ' H' t0 t1 t2 t9 t10 hw => hQ σ' H' t0 t1 t2 t9 t10 (.trans (.trans (.set hid) (.set hid)) hw)
      all_goals simp [h0, h1, h2, h9, h10, h12, Sort.swp]
    · have e : Sort.shiftUp ltB b j d = d := by rw [Sort.shiftUp, if_pos (by omega), if_pos (by simp [ltB, c2])]
      rw [e] at hQ
      obtain ⟨il, hil⟩ : ∃ x, x = Jtm.inLoop L134_10 := ⟨_, rfl⟩; rw [li_eq' il hil]
      simp -implicitDefEqProofs (disch := first | omega | with_unfolding_all exact eqR (Eq.refl _)) [nums, -getElem!_pos, -Int.natCast_add, -Int.natCast_mul, -Int.natCast_ediv, L134_10, S134_9, S134_7, S134_8, h0, h1, h2, h9, h10, h12, hd, call_135, loadB, storeB, storeB2]
      subst hil
      try simp -implicitDefEqProofs (disch := first | omega | with_unfolding_all exact eqR (Eq.refl _)) [nums, -getElem!_pos, -Int.natCast_add, -Int.natCast_mul, -Int.natCast_ediv]
      refine hQ _ _ ?_ ?_ ?_ ?_ ?_ (.refl hid hd) <;> simp [h0, h1, h2, h9, h10, h12]


theorem s134_12 {a b q i : Nat} (σ : Sig) (H : Heap) (d : Array Int) : σ 0 = .sl id 0 len lo ex 1 → σ 1 = .int .i64 (a : Nat) → σ 2 = .int .i64 (b : Nat) → σ 7 = .int .i64 (i : Nat) → σ 8 = .int .i64 (q : Nat) →
    id < H.next → H.obj id = .cells (tB.arr d) none → b ≤ len → 1 ≤ i → i ≤ b → len ≤ d.size → d.size < 2 ^ 40 →
    (∀ σ' H', σ' 0 = .sl id 0 len lo ex 1 → σ' 1 = .int .i64 (a : Nat) → σ' 2 = .int .i64 (b : Nat) → σ' 7 = .int .i64 (i : Nat) → σ' 8 = .int .i64 (q : Nat) → Wr H H' id (.cells (tB.arr (Sort.fixUp ltB b i d)) none) → Res (ai (callI tab) s k .nrm σ' H') Q) →
    Res (gi (callI tab) S134_12 s k σ H) Q := by
  intro h0 h1 h2 h9 h10 hid hd hb hp hi hl hs hQ
  unfold Sort.fixUp at hQ
  by_cases c1 : 2 ≤ b - i
  · rw [if_pos c1] at hQ
    simp -implicitDefEqProofs (disch := first | omega | with_unfolding_all exact eqR (Eq.refl _)) [nums, -getElem!_pos, -Int.natCast_add, -Int.natCast_mul, -Int.natCast_ediv, S134_12, S134_11, h0, h1, h2, h9, h10]
    refine l134_10 (len := len) (lo := lo) (ex := ex) _ (i + 1) _ H d rfl ?_ ?_ ?_ ?_ ?_ ?_ hid hd hb (by omega) (by omega) hl hs hQ
    all_goals simp [h0, h1, h2, h9, h10]
  · rw [if_neg c1] at hQ
    simp -implicitDefEqProofs (disch := first | omega | with_unfolding_all exact eqR (Eq.refl _)) [nums, -getElem!_pos, -Int.natCast_add, -Int.natCast_mul, -Int.natCast_ediv, S134_12, S134_11, h0, h1, h2, h9, h10]
    refine hQ _ _ ?_ ?_ ?_ ?_ ?_ (.refl hid hd) <;> simp [h0, h1, h2, h9, h10]
theorem s134_13 {a b q i : Nat} (σ : Sig) (H : Heap) (d : Array Int) : σ 0 = .sl id 0 len lo ex 1 → σ 1 = .int .i64 (a : Nat) → σ 2 = .int .i64 (b : Nat) → σ 7 = .int .i64 (i : Nat) → σ 8 = .int .i64 (q : Nat) →
    id < H.next → H.obj id = .cells (tB.arr d) none → b ≤ len → a < i → i < b → len ≤ d.size → d.size < 2 ^ 40 →
    (∀ σ' H', σ' 0 = .sl id 0 len lo ex 1 → σ' 1 = .int .i64 (a : Nat) → σ' 2 = .int .i64 (b : Nat) → σ' 7 = .int .i64 (i : Nat) → σ' 8 = .int .i64 (q : Nat) → Wr H H' id (.cells (tB.arr (Sort.fixUp ltB b i (Sort.fixDown ltB a i (Sort.swp d i (i - 1))))) none) → Res (ai (callI tab) s k .nrm σ' H') Q) →
    Res (gi (callI tab) S134_13 s k σ H) Q := by
  intro h0 h1 h2 h9 h10 hid hd hb hp hi hl hs hQ
  unfold Sort.fixDown at hQ
  by_cases c1 : 2 ≤ i - a
  · rw [if_pos c1] at hQ
    simp -implicitDefEqProofs (disch := first | omega | with_unfolding_all exact eqR (Eq.refl _)) [nums, -getElem!_pos, -Int.natCast_add, -Int.natCast_mul, -Int.natCast_ediv, S134_13, S134_6, h0, h1, h2, h9, h10, hd, loadB, storeB, storeB2]
    refine l134_5 (len := len) (lo := lo) (ex := ex) (a := a) (b := b) (q := q) (i := i) (i - 1) _ _ (Sort.swp d i (i - 1)) ?_ ?_ ?_ ?_ ?_ ?_ (by exact hid) ?_ (by omega) (by rw [swp_size]; exact hl) (by rw [swp_size]; exact hs) fun σ' H' t0 t1 t2 t9 t10 hw => ?_
    any_goals (first | (simp [h0, h1, h2, h9, h10, Sort.swp]; done) | skip)
    simp -implicitDefEqProofs (disch := first | omega | with_unfolding_all exact eqR (Eq.refl _)) [nums, -getElem!_pos, -Int.natCast_add, -Int.natCast_mul, -Int.natCast_ediv]
    refine s134_12 (len := len) (lo := lo) (ex := ex) σ' H' _ t0 t1 t2 t9 t10 (by rw [hw.nxt]; exact hid) hw.at hb (by omega) (by omega) (by rw [shiftDown_size, swp_size]; exact hl) (by rw [shiftDown_size, swp_size]; exact hs) fun σ2 H2 t0 t1 t2 t9 t10 hw2 => hQ σ2 H2 t0 t1 t2 t9 t10 ((Wr.trans (.trans (.set hid) (.set hid)) hw).trans hw2)
  · rw [if_neg c1] at hQ
    simp -implicitDefEqProofs (disch := first | omega | with_unfolding_all exact eqR (Eq.refl _)) [nums, -getElem!_pos, -Int.natCast_add, -Int.natCast_mul, -Int.natCast_ediv, S134_13, S134_6, h0, h1, h2, h9, h10, hd, loadB, storeB, storeB2]
    refine s134_12 (len := len) (lo := lo) (ex := ex) _ _ (Sort.swp d i (i - 1)) ?_ ?_ ?_ ?_ ?_ (by exact hid) ?_ hb (by omega) (by omega) (by rw [swp_size]; exact hl) (by rw [swp_size]; exact hs) fun σ2 H2 t0 t1 t2 t9 t10 hw2 => hQ σ2 H2 t0 t1 t2 t9 t10 (Wr.trans (.trans (.set hid) (.set hid)) hw2)
    all_goals simp [h0, h1, h2, h9, h10, Sort.swp]


theorem l134_18 {a b : Nat} (H0 : Heap) : ∀ (u i : Nat) (σ : Sig) (H : Heap) (d : Array Int), u ≤ 5 → σ 0 = .sl id 0 len lo ex 1 → σ 1 = .int .i64 (a : Nat) → σ 2 = .int .i64 (b : Nat) → σ 7 = .int .i64 (i : Nat) → σ 8 = .int .i64 ((5 - u : Nat) : Nat) →
    id < H.next → H.obj id = .cells (tB.arr d) none → b ≤ len → a < i → i ≤ b → len ≤ d.size → d.size < 2 ^ 40 →
    (∀ H', Wr H H' id (.cells (tB.arr (Sort.partialIns ltB a b u i d).1) none) → Res (some (wrapA H0 (.bool (Sort.partialIns ltB a b u i d).2) H')) Q) →
    Res (li (callI tab) L134_18 [.inBlock 0, .code S134_19] (fink [.tmp 6] false H0) σ H) Q := by
  intro u
  induction u with
  | zero =>
    intro i σ H d hu h0 h1 h2 h9 h10 hid hd hb hp hi hl hs hQ
    obtain ⟨il, hil⟩ : ∃ x, x = Jtm.inLoop L134_18 := ⟨_, rfl⟩; rw [li_eq' il hil]
    simp -implicitDefEqProofs (disch := first | omega | with_unfolding_all exact eqR (Eq.refl _)) [nums, -getElem!_pos, -Int.natCast_add, -Int.natCast_mul, -Int.natCast_ediv, L134_18, S134_17, h0, h1, h2, h9, h10, S134_19]
    subst hil
    try simp -implicitDefEqProofs (disch := first | omega | with_unfolding_all exact eqR (Eq.refl _)) [nums, -getElem!_pos, -Int.natCast_add, -Int.natCast_mul, -Int.natCast_ediv, S134_19]
    exact hQ _ (.refl hid hd)
  | succ u ih =>
    intro i σ H d hu h0 h1 h2 h9 h10 hid hd hb hp hi hl hs hQ
    rw [Sort.partialIns_succ] at hQ
    have bd := scanSorted_bd ltB d b _ i (Nat.le_refl _) hi
    obtain ⟨il, hil⟩ : ∃ x, x = Jtm.inLoop L134_18 := ⟨_, rfl⟩; rw [li_eq' il hil]
    simp -implicitDefEqProofs (disch := first | omega | with_unfolding_all exact eqR (Eq.refl _)) [nums, -getElem!_pos, -Int.natCast_add, -Int.natCast_mul, -Int.natCast_ediv, L134_18, S134_17, h0, h1, h2, h9, h10]
    refine l134_1 (len := len) (lo := lo) (ex := ex) (a := a) (q := 5 - (u + 1)) _ i _ rfl ?_ ?_ ?_ ?_ ?_ hid hd hb (by omega) (by omega) hl hs fun σ' t0 t1 t2 t9 t10 => ?_
    any_goals (first | (simp [h0, h1, h2, h9, h10]; done) | skip)
    generalize Sort.scanSorted ltB d b i = k at *
    by_cases c1 : k = b
    · rw [if_pos c1] at hQ
      simp -implicitDefEqProofs (disch := first | omega | with_unfolding_all exact eqR (Eq.refl _)) [nums, -getElem!_pos, -Int.natCast_add, -Int.natCast_mul, -Int.natCast_ediv, S134_15, t0, t1, t2, t9, t10]
      subst hil
      try simp -implicitDefEqProofs (disch := first | omega | with_unfolding_all exact eqR (Eq.refl _)) [nums, -getElem!_pos, -Int.natCast_add, -Int.natCast_mul, -Int.natCast_ediv]
      exact hQ _ (.refl hid hd)
    · rw [if_neg c1] at hQ
      by_cases c2 : b - a < 50
      · rw [if_pos c2] at hQ
        simp -implicitDefEqProofs (disch := first | omega | with_unfolding_all exact eqR (Eq.refl _)) [nums, -getElem!_pos, -Int.natCast_add, -Int.natCast_mul, -Int.natCast_ediv, S134_15, S134_14, t0, t1, t2, t9, t10]
        subst hil
        try simp -implicitDefEqProofs (disch := first | omega | with_unfolding_all exact eqR (Eq.refl _)) [nums, -getElem!_pos, -Int.natCast_add, -Int.natCast_mul, -Int.natCast_ediv]
        exact hQ _ (.refl hid hd)
      · rw [if_neg c2] at hQ
        simp -implicitDefEqProofs (disch := first | omega | with_unfolding_all exact eqR (Eq.refl _)) [nums, -getElem!_pos, -Int.natCast_add, -Int.natCast_mul, -Int.natCast_ediv, S134_15, S134_14, t0, t1, t2, t9, t10]
        refine s134_13 (len := len) (lo := lo) (ex := ex) (a := a) (b := b) (i := k) (q := 5 - (u + 1)) _ H d ?_ ?_ ?_ ?_ ?_ hid hd hb (by omega) (by omega) hl hs fun σ2 H2 u0 u1 u2 u9 u10 hw => ?_
        any_goals (first | (simp [t0, t1, t2, t9, t10]; done) | skip)
        have hsz : (Sort.fixUp ltB b k (Sort.fixDown ltB a k (Sort.swp d k (k - 1)))).size = d.size := by
          unfold Sort.fixUp Sort.fixDown
          split <;> split <;> simp [shiftUp_size _ _ _ _ _ (Nat.le_refl _), shiftDown_size, swp_size]
        simp -implicitDefEqProofs (disch := first | omega | with_unfolding_all exact eqR (Eq.refl _)) [nums, -getElem!_pos, -Int.natCast_add, -Int.natCast_mul, -Int.natCast_ediv, S134_16, u0, u1, u2, u9, u10]
        subst hil
        try simp -implicitDefEqProofs (disch := first | omega | with_unfolding_all exact eqR (Eq.refl _)) [nums, -getElem!_pos, -Int.natCast_add, -Int.natCast_mul, -Int.natCast_ediv]
        refine ih k _ _ _ (by omega) ?_ ?_ ?_ ?_ ?_ (by rw [hw.nxt]; exact hid) hw.at hb (by omega) (by omega) (by rw [hsz]; exact hl) (by rw [hsz]; exact hs) fun H' hw' => hQ H' (hw.trans hw')
        all_goals (first | (simp [u0, u1, u2, u9, u10]; done) | (simp [u0, u1, u2, u9, u10]; omega))

theorem call_134 {a b : Nat} {H : Heap} {d : Array Int} (hid : id < H.next) (hd : H.obj id = (.cells (tB.arr d) none)) (hb : b ≤ len) (ha : a < b) (hl : len ≤ d.size) (hs : d.size < 2 ^ 40) :
    Res (callI tab 134 [.sl id 0 len lo ex 1, .int .i64 a, .int .i64 b] H) fun v H' => v = .bool (Sort.partialInsertionSort ltB d a b).2 ∧ Wr H H' id (.cells (tB.arr (Sort.partialInsertionSort ltB d a b).1) none) := by
  refine .hide fun Q hQ => .enter tab_134 (by simp [AF134]) (.inl rfl) ?_
  simp -implicitDefEqProofs (disch := first | omega | with_unfolding_all exact eqR (Eq.refl _)) [nums, -getElem!_pos, -Int.natCast_add, -Int.natCast_mul, -Int.natCast_ediv, AF134]
  refine l134_18 (len := len) (lo := lo) (ex := ex) (a := a) (b := b) H 5 (a + 1) _ _ d (Nat.le_refl _) ?_ ?_ ?_ ?_ ?_ hid hd hb (by omega) (by omega) hl hs fun H' hw => ?_
  any_goals (first | (simp; done) | skip)
  obtain ⟨H2, e, w⟩ := hw.toFx.wrapA (H := H) (v := .bool _) rfl
  rw [e]
  exact .mk (hQ _ _ ⟨rfl, w⟩)

end
end Go.Mach.Ytl
