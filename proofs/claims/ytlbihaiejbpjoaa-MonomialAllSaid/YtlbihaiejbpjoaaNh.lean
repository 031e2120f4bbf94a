/-
  Partitions. By an AI agent.
-/
import Derived.Test.YtlbihaiejbpjoaaNg
set_option linter.unusedSimpArgs false
set_option linter.unusedVariables false
set_option maxRecDepth 100000
namespace Go.Mach.Ytl
open Go.Mach

section
variable {g id len lo : Nat} {ex : Bool} {c : Mo → Mo → Int} {s : List Jtm} {k : KF} {Q : AV → Heap → Prop}

theorem scanUp_bd {α : Type} [Inhabited α] (p : α → Bool) (d : Array α) {j i N : Nat} (hi : i < N) (hj : j + 1 < N) : Sort.scanUp p d j i < N := by
  by_cases h : i ≤ j + 1
  · have := (Sort.scanUp_spec p d j _ i rfl).2.1 h; omega
  · rw [Sort.scanUp, if_neg (by simp only [Bool.and_eq_true, decide_eq_true_eq]; omega)]; exact hi
theorem partEqLoop_size {α : Type} [Inhabited α] (lt : α → α → Bool) (a : Nat) (m : Nat) : ∀ i j (d : Array α), j + 1 - i ≤ m → (Sort.partEqLoop lt a i j d).2.size = d.size := by
  induction m with
  | zero =>
    intro i j d h
    rw [Sort.partEqLoop_eq, if_pos]
    have := Sort.scanUp_ge (fun x => !lt d[a]! x) d j i
    have := Sort.scanDown_le (fun x => lt d[a]! x) d (Sort.scanUp (fun x => !lt d[a]! x) d j i) j
    omega
  | succ m ih =>
    intro i j d h
    rw [Sort.partEqLoop_eq]
    have := Sort.scanUp_ge (fun x => !lt d[a]! x) d j i
    have := Sort.scanDown_le (fun x => lt d[a]! x) d (Sort.scanUp (fun x => !lt d[a]! x) d j i) j
    split
    · rfl
    · rw [ih _ _ _ (by omega), swp_size]
theorem partLoop_size {α : Type} [Inhabited α] (lt : α → α → Bool) (a : Nat) (m : Nat) : ∀ i j (d : Array α), j + 1 - i ≤ m → (Sort.partLoop lt a i j d).2.size = d.size ∧ (Sort.partLoop lt a i j d).1 ≤ j := by
  induction m with
  | zero =>
    intro i j d h
    have := Sort.scanUp_ge (fun x => lt x d[a]!) d j i
    have := Sort.scanDown_le (fun x => !lt x d[a]!) d (Sort.scanUp (fun x => lt x d[a]!) d j i) j
    rw [Sort.partLoop_eq, if_pos (by omega)]
    exact ⟨rfl, by simp only []; omega⟩
  | succ m ih =>
    intro i j d h
    have := Sort.scanUp_ge (fun x => lt x d[a]!) d j i
    have := Sort.scanDown_le (fun x => !lt x d[a]!) d (Sort.scanUp (fun x => lt x d[a]!) d j i) j
    rw [Sort.partLoop_eq]
    split
    · exact ⟨rfl, by simp only []; omega⟩
    · have := ih (Sort.scanUp (fun x => lt x d[a]!) d j i + 1) (Sort.scanDown (fun x => !lt x d[a]!) d (Sort.scanUp (fun x => lt x d[a]!) d j i) j - 1) (Sort.swp d (Sort.scanUp (fun x => lt x d[a]!) d j i) (Sort.scanDown (fun x => !lt x d[a]!) d (Sort.scanUp (fun x => lt x d[a]!) d j i) j)) (by omega)
      exact ⟨by rw [this.1, swp_size], by omega⟩


theorem l115_1 (hc : CmpM g c) (a j : Nat) {H : Heap} {d : Array Mo} : ∀ (m i : Nat) (σ : Sig), j + 1 - i = m → σ 0 = .sl id 0 len lo ex 8 → σ 1 = .int .i64 (a : Nat) → σ 4 = .fn g [] [] → σ 11 = .int .i64 (i : Nat) → σ 12 = .int .i64 (j : Nat) → id < H.next → H.obj id = .cells (tM.arr d) none → a < len → j < len → 1 ≤ i → i < 2 ^ 41 → len ≤ d.size → d.size < 2 ^ 40 →
    (∀ σ', σ' 0 = .sl id 0 len lo ex 8 → σ' 1 = .int .i64 (a : Nat) → σ' 4 = .fn g [] [] → σ' 11 = .int .i64 (Sort.scanUp (fun x => !(ltc c) d[a]! x) d j i : Nat) → σ' 12 = .int .i64 (j : Nat) → Res (ai (callI tab) s k .nrm σ' H) Q) →
    Res (li (callI tab) L115_1 (.inBlock 2 :: s) k σ H) Q := by
  intro m
  induction m with
  | zero =>
    intro i σ hm h0 h1 h4 h11 h12 hid hd ha hj hp hi hl hs hQ
    have e : Sort.scanUp (fun x => !(ltc c) d[a]! x) d j i = i := by rw [Sort.scanUp, if_neg (by simp only [Bool.and_eq_true, decide_eq_true_eq]; omega)]
    rw [e] at hQ
    obtain ⟨il, hil⟩ : ∃ x, x = Jtm.inLoop L115_1 := ⟨_, rfl⟩; rw [li_eq' il hil]
    simp -implicitDefEqProofs (disch := first | omega | with_unfolding_all exact eqR (Eq.refl _)) [nums, -getElem!_pos, -Int.natCast_add, -Int.natCast_mul, -Int.natCast_ediv, L115_1, S115_0, h0, h1, h4, h11, h12, hd, hc _ _, loadM, storeM, storeM2]
    subst hil
    try simp -implicitDefEqProofs (disch := first | omega | with_unfolding_all exact eqR (Eq.refl _)) [nums, -getElem!_pos, -Int.natCast_add, -Int.natCast_mul, -Int.natCast_ediv]
    refine hQ _ ?_ ?_ ?_ ?_ ?_ <;> simp [h0, h1, h4, h11, h12]
  | succ m ih =>
    intro i σ hm h0 h1 h4 h11 h12 hid hd ha hj hp hi hl hs hQ
    by_cases c2 : c d[a]! d[i]! < 0
    · have e : Sort.scanUp (fun x => !(ltc c) d[a]! x) d j i = i := by
        rw [Sort.scanUp, if_neg (by simp only [Bool.and_eq_true, decide_eq_true_eq, ltc, c2]; simp)]
      rw [e] at hQ
      obtain ⟨il, hil⟩ : ∃ x, x = Jtm.inLoop L115_1 := ⟨_, rfl⟩; rw [li_eq' il hil]
      simp -implicitDefEqProofs (disch := first | omega | with_unfolding_all exact eqR (Eq.refl _)) [nums, -getElem!_pos, -Int.natCast_add, -Int.natCast_mul, -Int.natCast_ediv, L115_1, S115_0, h0, h1, h4, h11, h12, hd, hc _ _, loadM, storeM, storeM2]
      subst hil
      try simp -implicitDefEqProofs (disch := first | omega | with_unfolding_all exact eqR (Eq.refl _)) [nums, -getElem!_pos, -Int.natCast_add, -Int.natCast_mul, -Int.natCast_ediv]
      refine hQ _ ?_ ?_ ?_ ?_ ?_ <;> simp [h0, h1, h4, h11, h12]
      
    · have e : Sort.scanUp (fun x => !(ltc c) d[a]! x) d j i = Sort.scanUp (fun x => !(ltc c) d[a]! x) d j (i + 1) := by
        rw [Sort.scanUp, if_pos (by simp only [Bool.and_eq_true, decide_eq_true_eq, ltc, c2]; simp; omega)]
      rw [e] at hQ
      obtain ⟨il, hil⟩ : ∃ x, x = Jtm.inLoop L115_1 := ⟨_, rfl⟩; rw [li_eq' il hil]
      simp -implicitDefEqProofs (disch := first | omega | with_unfolding_all exact eqR (Eq.refl _)) [nums, -getElem!_pos, -Int.natCast_add, -Int.natCast_mul, -Int.natCast_ediv, L115_1, S115_0, h0, h1, h4, h11, h12, hd, hc _ _, loadM, storeM, storeM2]
      subst hil
      try simp -implicitDefEqProofs (disch := first | omega | with_unfolding_all exact eqR (Eq.refl _)) [nums, -getElem!_pos, -Int.natCast_add, -Int.natCast_mul, -Int.natCast_ediv]
      refine ih (i + 1) _ (by omega) ?_ ?_ ?_ ?_ ?_ hid hd ha hj (by omega) (by omega) hl hs hQ
      all_goals simp [h0, h1, h4, h11, h12]


theorem l115_3 (hc : CmpM g c) (a i : Nat) {H : Heap} {d : Array Mo} : ∀ (j : Nat) (σ : Sig), σ 0 = .sl id 0 len lo ex 8 → σ 1 = .int .i64 (a : Nat) → σ 4 = .fn g [] [] → σ 11 = .int .i64 (i : Nat) → σ 12 = .int .i64 (j : Nat) → id < H.next → H.obj id = .cells (tM.arr d) none → a < len → j < len → 1 ≤ i → i < 2 ^ 41 → len ≤ d.size → d.size < 2 ^ 40 →
    (∀ σ', σ' 0 = .sl id 0 len lo ex 8 → σ' 1 = .int .i64 (a : Nat) → σ' 4 = .fn g [] [] → σ' 11 = .int .i64 (i : Nat) → σ' 12 = .int .i64 (Sort.scanDown (fun x => (ltc c) d[a]! x) d i j : Nat) → Res (ai (callI tab) s k .nrm σ' H) Q) →
    Res (li (callI tab) L115_3 (.inBlock 4 :: s) k σ H) Q := by
  intro j
  induction j with
  | zero =>
    intro σ h0 h1 h4 h11 h12 hid hd ha hj hp hi hl hs hQ
    have e : Sort.scanDown (fun x => (ltc c) d[a]! x) d i 0 = 0 := rfl
    rw [e] at hQ
    obtain ⟨il, hil⟩ : ∃ x, x = Jtm.inLoop L115_3 := ⟨_, rfl⟩; rw [li_eq' il hil]
    simp -implicitDefEqProofs (disch := first | omega | with_unfolding_all exact eqR (Eq.refl _)) [nums, -getElem!_pos, -Int.natCast_add, -Int.natCast_mul, -Int.natCast_ediv, L115_3, S115_2, h0, h1, h4, h11, h12, hd, hc _ _, loadM, storeM, storeM2]
    subst hil
    try simp -implicitDefEqProofs (disch := first | omega | with_unfolding_all exact eqR (Eq.refl _)) [nums, -getElem!_pos, -Int.natCast_add, -Int.natCast_mul, -Int.natCast_ediv]
    refine hQ _ ?_ ?_ ?_ ?_ ?_ <;> simp [h0, h1, h4, h11, h12]
  | succ j ih =>
    intro σ h0 h1 h4 h11 h12 hid hd ha hj hp hi hl hs hQ
    by_cases c1 : i ≤ j + 1
    · by_cases c2 : c d[a]! d[j + 1]! < 0
      · have e : Sort.scanDown (fun x => (ltc c) d[a]! x) d i (j + 1) = Sort.scanDown (fun x => (ltc c) d[a]! x) d i j := by
          rw [Sort.scanDown, if_pos (by simp only [Bool.and_eq_true, decide_eq_true_eq, ltc, c2]; simp; omega)]
        rw [e] at hQ
        obtain ⟨il, hil⟩ : ∃ x, x = Jtm.inLoop L115_3 := ⟨_, rfl⟩; rw [li_eq' il hil]
        simp -implicitDefEqProofs (disch := first | omega | with_unfolding_all exact eqR (Eq.refl _)) [nums, -getElem!_pos, -Int.natCast_add, -Int.natCast_mul, -Int.natCast_ediv, L115_3, S115_2, h0, h1, h4, h11, h12, hd, hc _ _, loadM, storeM, storeM2]
        subst hil
        try simp -implicitDefEqProofs (disch := first | omega | with_unfolding_all exact eqR (Eq.refl _)) [nums, -getElem!_pos, -Int.natCast_add, -Int.natCast_mul, -Int.natCast_ediv]
        refine ih _ ?_ ?_ ?_ ?_ ?_ hid hd ha (by omega) hp hi hl hs hQ
        all_goals simp [h0, h1, h4, h11, h12]
      · have e : Sort.scanDown (fun x => (ltc c) d[a]! x) d i (j + 1) = j + 1 := by
          rw [Sort.scanDown, if_neg (by simp only [Bool.and_eq_true, decide_eq_true_eq, ltc, c2]; simp)]
        rw [e] at hQ
        obtain ⟨il, hil⟩ : ∃ x, x = Jtm.inLoop L115_3 := ⟨_, rfl⟩; rw [li_eq' il hil]
        simp -implicitDefEqProofs (disch := first | omega | with_unfolding_all exact eqR (Eq.refl _)) [nums, -getElem!_pos, -Int.natCast_add, -Int.natCast_mul, -Int.natCast_ediv, L115_3, S115_2, h0, h1, h4, h11, h12, hd, hc _ _, loadM, storeM, storeM2]
        subst hil
        try simp -implicitDefEqProofs (disch := first | omega | with_unfolding_all exact eqR (Eq.refl _)) [nums, -getElem!_pos, -Int.natCast_add, -Int.natCast_mul, -Int.natCast_ediv]
        refine hQ _ ?_ ?_ ?_ ?_ ?_ <;> simp [h0, h1, h4, h11, h12]
        
    · have e : Sort.scanDown (fun x => (ltc c) d[a]! x) d i (j + 1) = j + 1 := by
        rw [Sort.scanDown, if_neg (by simp only [Bool.and_eq_true, decide_eq_true_eq]; omega)]
      rw [e] at hQ
      obtain ⟨il, hil⟩ : ∃ x, x = Jtm.inLoop L115_3 := ⟨_, rfl⟩; rw [li_eq' il hil]
      simp -implicitDefEqProofs (disch := first | omega | with_unfolding_all exact eqR (Eq.refl _)) [nums, -getElem!_pos, -Int.natCast_add, -Int.natCast_mul, -Int.natCast_ediv, L115_3, S115_2, h0, h1, h4, h11, h12, hd, hc _ _, loadM, storeM, storeM2]
      subst hil
      try simp -implicitDefEqProofs (disch := first | omega | with_unfolding_all exact eqR (Eq.refl _)) [nums, -getElem!_pos, -Int.natCast_add, -Int.natCast_mul, -Int.natCast_ediv]
      refine hQ _ ?_ ?_ ?_ ?_ ?_ <;> simp [h0, h1, h4, h11, h12]


theorem l116_1 (hc : CmpM g c) (a j : Nat) {H : Heap} {d : Array Mo} : ∀ (m i : Nat) (σ : Sig), j + 1 - i = m → σ 0 = .sl id 0 len lo ex 8 → σ 1 = .int .i64 (a : Nat) → σ 4 = .fn g [] [] → σ 12 = .int .i64 (i : Nat) → σ 13 = .int .i64 (j : Nat) → id < H.next → H.obj id = .cells (tM.arr d) none → a < len → j < len → 1 ≤ i → i < 2 ^ 41 → len ≤ d.size → d.size < 2 ^ 40 →
    (∀ σ', σ' 0 = .sl id 0 len lo ex 8 → σ' 1 = .int .i64 (a : Nat) → σ' 4 = .fn g [] [] → σ' 12 = .int .i64 (Sort.scanUp (fun x => (ltc c) x d[a]!) d j i : Nat) → σ' 13 = .int .i64 (j : Nat) → Res (ai (callI tab) s k .nrm σ' H) Q) →
    Res (li (callI tab) L116_1 (.inBlock 0 :: s) k σ H) Q := by
  intro m
  induction m with
  | zero =>
    intro i σ hm h0 h1 h4 h12 h13 hid hd ha hj hp hi hl hs hQ
    have e : Sort.scanUp (fun x => (ltc c) x d[a]!) d j i = i := by rw [Sort.scanUp, if_neg (by simp only [Bool.and_eq_true, decide_eq_true_eq]; omega)]
    rw [e] at hQ
    obtain ⟨il, hil⟩ : ∃ x, x = Jtm.inLoop L116_1 := ⟨_, rfl⟩; rw [li_eq' il hil]
    simp -implicitDefEqProofs (disch := first | omega | with_unfolding_all exact eqR (Eq.refl _)) [nums, -getElem!_pos, -Int.natCast_add, -Int.natCast_mul, -Int.natCast_ediv, L116_1, S116_0, h0, h1, h4, h12, h13, hd, hc _ _, loadM, storeM, storeM2]
    subst hil
    try simp -implicitDefEqProofs (disch := first | omega | with_unfolding_all exact eqR (Eq.refl _)) [nums, -getElem!_pos, -Int.natCast_add, -Int.natCast_mul, -Int.natCast_ediv]
    refine hQ _ ?_ ?_ ?_ ?_ ?_ <;> simp [h0, h1, h4, h12, h13]
  | succ m ih =>
    intro i σ hm h0 h1 h4 h12 h13 hid hd ha hj hp hi hl hs hQ
    by_cases c2 : c d[i]! d[a]! < 0
    · have e : Sort.scanUp (fun x => (ltc c) x d[a]!) d j i = Sort.scanUp (fun x => (ltc c) x d[a]!) d j (i + 1) := by
        rw [Sort.scanUp, if_pos (by simp only [Bool.and_eq_true, decide_eq_true_eq, ltc, c2]; simp; omega)]
      rw [e] at hQ
      obtain ⟨il, hil⟩ : ∃ x, x = Jtm.inLoop L116_1 := ⟨_, rfl⟩; rw [li_eq' il hil]
      simp -implicitDefEqProofs (disch := first | omega | with_unfolding_all exact eqR (Eq.refl _)) [nums, -getElem!_pos, -Int.natCast_add, -Int.natCast_mul, -Int.natCast_ediv, L116_1, S116_0, h0, h1, h4, h12, h13, hd, hc _ _, loadM, storeM, storeM2]
      subst hil
      try simp -implicitDefEqProofs (disch := first | omega | with_unfolding_all exact eqR (Eq.refl _)) [nums, -getElem!_pos, -Int.natCast_add, -Int.natCast_mul, -Int.natCast_ediv]
      refine ih (i + 1) _ (by omega) ?_ ?_ ?_ ?_ ?_ hid hd ha hj (by omega) (by omega) hl hs hQ
      all_goals simp [h0, h1, h4, h12, h13]
    · have e : Sort.scanUp (fun x => (ltc c) x d[a]!) d j i = i := by
        rw [Sort.scanUp, if_neg (by simp only [Bool.and_eq_true, decide_eq_true_eq, ltc, c2]; simp)]
      rw [e] at hQ
      obtain ⟨il, hil⟩ : ∃ x, x = Jtm.inLoop L116_1 := ⟨_, rfl⟩; rw [li_eq' il hil]
      simp -implicitDefEqProofs (disch := first | omega | with_unfolding_all exact eqR (Eq.refl _)) [nums, -getElem!_pos, -Int.natCast_add, -Int.natCast_mul, -Int.natCast_ediv, L116_1, S116_0, h0, h1, h4, h12, h13, hd, hc _ _, loadM, storeM, storeM2]
      subst hil
      try simp -implicitDefEqProofs (disch := first | omega | with_unfolding_all exact eqR (Eq.refl _)) [nums, -getElem!_pos, -Int.natCast_add, -Int.natCast_mul, -Int.natCast_ediv]
      refine hQ _ ?_ ?_ ?_ ?_ ?_ <;> simp [h0, h1, h4, h12, h13]
      


theorem l116_3 (hc : CmpM g c) (a i : Nat) {H : Heap} {d : Array Mo} : ∀ (j : Nat) (σ : Sig), σ 0 = .sl id 0 len lo ex 8 → σ 1 = .int .i64 (a : Nat) → σ 4 = .fn g [] [] → σ 12 = .int .i64 (i : Nat) → σ 13 = .int .i64 (j : Nat) → id < H.next → H.obj id = .cells (tM.arr d) none → a < len → j < len → 1 ≤ i → i < 2 ^ 41 → len ≤ d.size → d.size < 2 ^ 40 →
    (∀ σ', σ' 0 = .sl id 0 len lo ex 8 → σ' 1 = .int .i64 (a : Nat) → σ' 4 = .fn g [] [] → σ' 12 = .int .i64 (i : Nat) → σ' 13 = .int .i64 (Sort.scanDown (fun x => !(ltc c) x d[a]!) d i j : Nat) → Res (ai (callI tab) s k .nrm σ' H) Q) →
    Res (li (callI tab) L116_3 (.inBlock 2 :: s) k σ H) Q := by
  intro j
  induction j with
  | zero =>
    intro σ h0 h1 h4 h12 h13 hid hd ha hj hp hi hl hs hQ
    have e : Sort.scanDown (fun x => !(ltc c) x d[a]!) d i 0 = 0 := rfl
    rw [e] at hQ
    obtain ⟨il, hil⟩ : ∃ x, x = Jtm.inLoop L116_3 := ⟨_, rfl⟩; rw [li_eq' il hil]
    simp -implicitDefEqProofs (disch := first | omega | with_unfolding_all exact eqR (Eq.refl _)) [nums, -getElem!_pos, -Int.natCast_add, -Int.natCast_mul, -Int.natCast_ediv, L116_3, S116_2, h0, h1, h4, h12, h13, hd, hc _ _, loadM, storeM, storeM2]
    subst hil
    try simp -implicitDefEqProofs (disch := first | omega | with_unfolding_all exact eqR (Eq.refl _)) [nums, -getElem!_pos, -Int.natCast_add, -Int.natCast_mul, -Int.natCast_ediv]
    refine hQ _ ?_ ?_ ?_ ?_ ?_ <;> simp [h0, h1, h4, h12, h13]
  | succ j ih =>
    intro σ h0 h1 h4 h12 h13 hid hd ha hj hp hi hl hs hQ
    by_cases c1 : i ≤ j + 1
    · by_cases c2 : c d[j + 1]! d[a]! < 0
      · have e : Sort.scanDown (fun x => !(ltc c) x d[a]!) d i (j + 1) = j + 1 := by
          rw [Sort.scanDown, if_neg (by simp only [Bool.and_eq_true, decide_eq_true_eq, ltc, c2]; simp)]
        rw [e] at hQ
        obtain ⟨il, hil⟩ : ∃ x, x = Jtm.inLoop L116_3 := ⟨_, rfl⟩; rw [li_eq' il hil]
        simp -implicitDefEqProofs (disch := first | omega | with_unfolding_all exact eqR (Eq.refl _)) [nums, -getElem!_pos, -Int.natCast_add, -Int.natCast_mul, -Int.natCast_ediv, L116_3, S116_2, h0, h1, h4, h12, h13, hd, hc _ _, loadM, storeM, storeM2]
        subst hil
        try simp -implicitDefEqProofs (disch := first | omega | with_unfolding_all exact eqR (Eq.refl _)) [nums, -getElem!_pos, -Int.natCast_add, -Int.natCast_mul, -Int.natCast_ediv]
        refine hQ _ ?_ ?_ ?_ ?_ ?_ <;> simp [h0, h1, h4, h12, h13]
        
      · have e : Sort.scanDown (fun x => !(ltc c) x d[a]!) d i (j + 1) = Sort.scanDown (fun x => !(ltc c) x d[a]!) d i j := by
          rw [Sort.scanDown, if_pos (by simp only [Bool.and_eq_true, decide_eq_true_eq, ltc, c2]; simp; omega)]
        rw [e] at hQ
        obtain ⟨il, hil⟩ : ∃ x, x = Jtm.inLoop L116_3 := ⟨_, rfl⟩; rw [li_eq' il hil]
        simp -implicitDefEqProofs (disch := first | omega | with_unfolding_all exact eqR (Eq.refl _)) [nums, -getElem!_pos, -Int.natCast_add, -Int.natCast_mul, -Int.natCast_ediv, L116_3, S116_2, h0, h1, h4, h12, h13, hd, hc _ _, loadM, storeM, storeM2]
        subst hil
        try simp -implicitDefEqProofs (disch := first | omega | with_unfolding_all exact eqR (Eq.refl _)) [nums, -getElem!_pos, -Int.natCast_add, -Int.natCast_mul, -Int.natCast_ediv]
        refine ih _ ?_ ?_ ?_ ?_ ?_ hid hd ha (by omega) hp hi hl hs hQ
        all_goals simp [h0, h1, h4, h12, h13]
    · have e : Sort.scanDown (fun x => !(ltc c) x d[a]!) d i (j + 1) = j + 1 := by
        rw [Sort.scanDown, if_neg (by simp only [Bool.and_eq_true, decide_eq_true_eq]; omega)]
      rw [e] at hQ
      obtain ⟨il, hil⟩ : ∃ x, x = Jtm.inLoop L116_3 := ⟨_, rfl⟩; rw [li_eq' il hil]
      simp -implicitDefEqProofs (disch := first | omega | with_unfolding_all exact eqR (Eq.refl _)) [nums, -getElem!_pos, -Int.natCast_add, -Int.natCast_mul, -Int.natCast_ediv, L116_3, S116_2, h0, h1, h4, h12, h13, hd, hc _ _, loadM, storeM, storeM2]
      subst hil
      try simp -implicitDefEqProofs (disch := first | omega | with_unfolding_all exact eqR (Eq.refl _)) [nums, -getElem!_pos, -Int.natCast_add, -Int.natCast_mul, -Int.natCast_ediv]
      refine hQ _ ?_ ?_ ?_ ?_ ?_ <;> simp [h0, h1, h4, h12, h13]


theorem l116_5 (hc : CmpM g c) (a j : Nat) {H : Heap} {d : Array Mo} : ∀ (m i : Nat) (σ : Sig), j + 1 - i = m → σ 0 = .sl id 0 len lo ex 8 → σ 1 = .int .i64 (a : Nat) → σ 4 = .fn g [] [] → σ 12 = .int .i64 (i : Nat) → σ 13 = .int .i64 (j : Nat) → id < H.next → H.obj id = .cells (tM.arr d) none → a < len → j < len → 1 ≤ i → i < 2 ^ 41 → len ≤ d.size → d.size < 2 ^ 40 →
    (∀ σ', σ' 0 = .sl id 0 len lo ex 8 → σ' 1 = .int .i64 (a : Nat) → σ' 4 = .fn g [] [] → σ' 12 = .int .i64 (Sort.scanUp (fun x => (ltc c) x d[a]!) d j i : Nat) → σ' 13 = .int .i64 (j : Nat) → Res (ai (callI tab) s k .nrm σ' H) Q) →
    Res (li (callI tab) L116_5 (.inBlock 6 :: s) k σ H) Q := by
  intro m
  induction m with
  | zero =>
    intro i σ hm h0 h1 h4 h12 h13 hid hd ha hj hp hi hl hs hQ
    have e : Sort.scanUp (fun x => (ltc c) x d[a]!) d j i = i := by rw [Sort.scanUp, if_neg (by simp only [Bool.and_eq_true, decide_eq_true_eq]; omega)]
    rw [e] at hQ
    obtain ⟨il, hil⟩ : ∃ x, x = Jtm.inLoop L116_5 := ⟨_, rfl⟩; rw [li_eq' il hil]
    simp -implicitDefEqProofs (disch := first | omega | with_unfolding_all exact eqR (Eq.refl _)) [nums, -getElem!_pos, -Int.natCast_add, -Int.natCast_mul, -Int.natCast_ediv, L116_5, S116_4, h0, h1, h4, h12, h13, hd, hc _ _, loadM, storeM, storeM2]
    subst hil
    try simp -implicitDefEqProofs (disch := first | omega | with_unfolding_all exact eqR (Eq.refl _)) [nums, -getElem!_pos, -Int.natCast_add, -Int.natCast_mul, -Int.natCast_ediv]
    refine hQ _ ?_ ?_ ?_ ?_ ?_ <;> simp [h0, h1, h4, h12, h13]
  | succ m ih =>
    intro i σ hm h0 h1 h4 h12 h13 hid hd ha hj hp hi hl hs hQ
    by_cases c2 : c d[i]! d[a]! < 0
    · have e : Sort.scanUp (fun x => (ltc c) x d[a]!) d j i = Sort.scanUp (fun x => (ltc c) x d[a]!) d j (i + 1) := by
        rw [Sort.scanUp, if_pos (by simp only [Bool.and_eq_true, decide_eq_true_eq, ltc, c2]; simp; omega)]
      rw [e] at hQ
      obtain ⟨il, hil⟩ : ∃ x, x = Jtm.inLoop L116_5 := ⟨_, rfl⟩; rw [li_eq' il hil]
      simp -implicitDefEqProofs (disch := first | omega | with_unfolding_all exact eqR (Eq.refl _)) [nums, -getElem!_pos, -Int.natCast_add, -Int.natCast_mul, -Int.natCast_ediv, L116_5, S116_4, h0, h1, h4, h12, h13, hd, hc _ _, loadM, storeM, storeM2]
      subst hil
      try simp -implicitDefEqProofs (disch := first | omega | with_unfolding_all exact eqR (Eq.refl _)) [nums, -getElem!_pos, -Int.natCast_add, -Int.natCast_mul, -Int.natCast_ediv]
      refine ih (i + 1) _ (by omega) ?_ ?_ ?_ ?_ ?_ hid hd ha hj (by omega) (by omega) hl hs hQ
      all_goals simp [h0, h1, h4, h12, h13]
    · have e : Sort.scanUp (fun x => (ltc c) x d[a]!) d j i = i := by
        rw [Sort.scanUp, if_neg (by simp only [Bool.and_eq_true, decide_eq_true_eq, ltc, c2]; simp)]
      rw [e] at hQ
      obtain ⟨il, hil⟩ : ∃ x, x = Jtm.inLoop L116_5 := ⟨_, rfl⟩; rw [li_eq' il hil]
      simp -implicitDefEqProofs (disch := first | omega | with_unfolding_all exact eqR (Eq.refl _)) [nums, -getElem!_pos, -Int.natCast_add, -Int.natCast_mul, -Int.natCast_ediv, L116_5, S116_4, h0, h1, h4, h12, h13, hd, hc _ _, loadM, storeM, storeM2]
      subst hil
      try simp -implicitDefEqProofs (disch := first | omega | with_unfolding_all exact eqR (Eq.refl _)) [nums, -getElem!_pos, -Int.natCast_add, -Int.natCast_mul, -Int.natCast_ediv]
      refine hQ _ ?_ ?_ ?_ ?_ ?_ <;> simp [h0, h1, h4, h12, h13]
      


theorem l116_7 (hc : CmpM g c) (a i : Nat) {H : Heap} {d : Array Mo} : ∀ (j : Nat) (σ : Sig), σ 0 = .sl id 0 len lo ex 8 → σ 1 = .int .i64 (a : Nat) → σ 4 = .fn g [] [] → σ 12 = .int .i64 (i : Nat) → σ 13 = .int .i64 (j : Nat) → id < H.next → H.obj id = .cells (tM.arr d) none → a < len → j < len → 1 ≤ i → i < 2 ^ 41 → len ≤ d.size → d.size < 2 ^ 40 →
    (∀ σ', σ' 0 = .sl id 0 len lo ex 8 → σ' 1 = .int .i64 (a : Nat) → σ' 4 = .fn g [] [] → σ' 12 = .int .i64 (i : Nat) → σ' 13 = .int .i64 (Sort.scanDown (fun x => !(ltc c) x d[a]!) d i j : Nat) → Res (ai (callI tab) s k .nrm σ' H) Q) →
    Res (li (callI tab) L116_7 (.inBlock 8 :: s) k σ H) Q := by
  intro j
  induction j with
  | zero =>
    intro σ h0 h1 h4 h12 h13 hid hd ha hj hp hi hl hs hQ
    have e : Sort.scanDown (fun x => !(ltc c) x d[a]!) d i 0 = 0 := rfl
    rw [e] at hQ
    obtain ⟨il, hil⟩ : ∃ x, x = Jtm.inLoop L116_7 := ⟨_, rfl⟩; rw [li_eq' il hil]
    simp -implicitDefEqProofs (disch := first | omega | with_unfolding_all exact eqR (Eq.refl _)) [nums, -getElem!_pos, -Int.natCast_add, -Int.natCast_mul, -Int.natCast_ediv, L116_7, S116_6, h0, h1, h4, h12, h13, hd, hc _ _, loadM, storeM, storeM2]
    subst hil
    try simp -implicitDefEqProofs (disch := first | omega | with_unfolding_all exact eqR (Eq.refl _)) [nums, -getElem!_pos, -Int.natCast_add, -Int.natCast_mul, -Int.natCast_ediv]
    refine hQ _ ?_ ?_ ?_ ?_ ?_ <;> simp [h0, h1, h4, h12, h13]
  | succ j ih =>
    intro σ h0 h1 h4 h12 h13 hid hd ha hj hp hi hl hs hQ
    by_cases c1 : i ≤ j + 1
    · by_cases c2 : c d[j + 1]! d[a]! < 0
      · have e : Sort.scanDown (fun x => !(ltc c) x d[a]!) d i (j + 1) = j + 1 := by
          rw [Sort.scanDown, if_neg (by simp only [Bool.and_eq_true, decide_eq_true_eq, ltc, c2]; simp)]
        rw [e] at hQ
        obtain ⟨il, hil⟩ : ∃ x, x = Jtm.inLoop L116_7 := ⟨_, rfl⟩; rw [li_eq' il hil]
        simp -implicitDefEqProofs (disch := first | omega | with_unfolding_all exact eqR (Eq.refl _)) [nums, -getElem!_pos, -Int.natCast_add, -Int.natCast_mul, -Int.natCast_ediv, L116_7, S116_6, h0, h1, h4, h12, h13, hd, hc _ _, loadM, storeM, storeM2]
        subst hil
        try simp -implicitDefEqProofs (disch := first | omega | with_unfolding_all exact eqR (Eq.refl _)) [nums, -getElem!_pos, -Int.natCast_add, -Int.natCast_mul, -Int.natCast_ediv]
        refine hQ _ ?_ ?_ ?_ ?_ ?_ <;> simp [h0, h1, h4, h12, h13]
        
      · have e : Sort.scanDown (fun x => !(ltc c) x d[a]!) d i (j + 1) = Sort.scanDown (fun x => !(ltc c) x d[a]!) d i j := by
          rw [Sort.scanDown, if_pos (by simp only [Bool.and_eq_true, decide_eq_true_eq, ltc, c2]; simp; omega)]
        rw [e] at hQ
        obtain ⟨il, hil⟩ : ∃ x, x = Jtm.inLoop L116_7 := ⟨_, rfl⟩; rw [li_eq' il hil]
        simp -implicitDefEqProofs (disch := first | omega | with_unfolding_all exact eqR (Eq.refl _)) [nums, -getElem!_pos, -Int.natCast_add, -Int.natCast_mul, -Int.natCast_ediv, L116_7, S116_6, h0, h1, h4, h12, h13, hd, hc _ _, loadM, storeM, storeM2]
        subst hil
        try simp -implicitDefEqProofs (disch := first | omega | with_unfolding_all exact eqR (Eq.refl _)) [nums, -getElem!_pos, -Int.natCast_add, -Int.natCast_mul, -Int.natCast_ediv]
        refine ih _ ?_ ?_ ?_ ?_ ?_ hid hd ha (by omega) hp hi hl hs hQ
        all_goals simp [h0, h1, h4, h12, h13]
    · have e : Sort.scanDown (fun x => !(ltc c) x d[a]!) d i (j + 1) = j + 1 := by
        rw [Sort.scanDown, if_neg (by simp only [Bool.and_eq_true, decide_eq_true_eq]; omega)]
      rw [e] at hQ
      obtain ⟨il, hil⟩ : ∃ x, x = Jtm.inLoop L116_7 := ⟨_, rfl⟩; rw [li_eq' il hil]
      simp -implicitDefEqProofs (disch := first | omega | with_unfolding_all exact eqR (Eq.refl _)) [nums, -getElem!_pos, -Int.natCast_add, -Int.natCast_mul, -Int.natCast_ediv, L116_7, S116_6, h0, h1, h4, h12, h13, hd, hc _ _, loadM, storeM, storeM2]
      subst hil
      try simp -implicitDefEqProofs (disch := first | omega | with_unfolding_all exact eqR (Eq.refl _)) [nums, -getElem!_pos, -Int.natCast_add, -Int.natCast_mul, -Int.natCast_ediv]
      refine hQ _ ?_ ?_ ?_ ?_ ?_ <;> simp [h0, h1, h4, h12, h13]


theorem l115_7 (hc : CmpM g c) (a : Nat) : ∀ (m i j : Nat) (σ : Sig) (H : Heap) (d : Array Mo), j + 1 - i ≤ m → σ 0 = .sl id 0 len lo ex 8 → σ 1 = .int .i64 (a : Nat) → σ 4 = .fn g [] [] → σ 11 = .int .i64 (i : Nat) → σ 12 = .int .i64 (j : Nat) →
    id < H.next → H.obj id = .cells (tM.arr d) none → a < len → j < len → 1 ≤ i → i < 2 ^ 41 → len ≤ d.size → d.size < 2 ^ 40 →
    (∀ σ' H', σ' 0 = .sl id 0 len lo ex 8 → σ' 1 = .int .i64 (a : Nat) → σ' 4 = .fn g [] [] → σ' 11 = .int .i64 ((Sort.partEqLoop (ltc c) a i j d).1 : Nat) → Wr H H' id (.cells (tM.arr (Sort.partEqLoop (ltc c) a i j d).2) none) → Res (ai (callI tab) s k .nrm σ' H') Q) →
    Res (li (callI tab) L115_7 (.inBlock 0 :: s) k σ H) Q := by
  intro m
  induction m with
  | zero =>
    intro i j σ H d hm h0 h1 h4 h11 h12 hid hd ha hj hp hi hl hs hQ
    have u1 := Sort.scanUp_ge (fun x => !(ltc c) d[a]! x) d j i
    have u2 := Sort.scanDown_le (fun x => (ltc c) d[a]! x) d (Sort.scanUp (fun x => !(ltc c) d[a]! x) d j i) j
    have u3 : Sort.scanUp (fun x => !(ltc c) d[a]! x) d j i < 2 ^ 41 := scanUp_bd _ _ hi (by omega)
    have e := Sort.partEqLoop_eq (ltc c) a i j d
    rw [if_pos (by omega)] at e
    rw [e] at hQ
    obtain ⟨il, hil⟩ : ∃ x, x = Jtm.inLoop L115_7 := ⟨_, rfl⟩; rw [li_eq' il hil]
    simp -implicitDefEqProofs (disch := first | omega | with_unfolding_all exact eqR (Eq.refl _)) [nums, -getElem!_pos, -Int.natCast_add, -Int.natCast_mul, -Int.natCast_ediv, L115_7]
    refine l115_1 (len := len) (lo := lo) (ex := ex) hc a j _ i σ rfl h0 h1 h4 h11 h12 hid hd ha hj hp hi hl hs fun σ1 q0 q1 q4 qi qj => ?_
    simp -implicitDefEqProofs (disch := first | omega | with_unfolding_all exact eqR (Eq.refl _)) [nums, -getElem!_pos, -Int.natCast_add, -Int.natCast_mul, -Int.natCast_ediv, S115_6]
    refine l115_3 (len := len) (lo := lo) (ex := ex) hc a _ j σ1 q0 q1 q4 qi qj hid hd ha hj (by omega) u3 hl hs fun σ2 r0 r1 r4 ri rj => ?_
    simp -implicitDefEqProofs (disch := first | omega | with_unfolding_all exact eqR (Eq.refl _)) [nums, -getElem!_pos, -Int.natCast_add, -Int.natCast_mul, -Int.natCast_ediv, S115_5, r0, r1, r4, ri, rj]
    subst hil
    try simp -implicitDefEqProofs (disch := first | omega | with_unfolding_all exact eqR (Eq.refl _)) [nums, -getElem!_pos, -Int.natCast_add, -Int.natCast_mul, -Int.natCast_ediv]
    refine hQ _ _ ?_ ?_ ?_ ?_ (.refl hid hd)
    all_goals simp [r0, r1, r4, ri, rj]
  | succ m ih =>
    intro i j σ H d hm h0 h1 h4 h11 h12 hid hd ha hj hp hi hl hs hQ
    have u1 := Sort.scanUp_ge (fun x => !(ltc c) d[a]! x) d j i
    have u2 := Sort.scanDown_le (fun x => (ltc c) d[a]! x) d (Sort.scanUp (fun x => !(ltc c) d[a]! x) d j i) j
    have u3 : Sort.scanUp (fun x => !(ltc c) d[a]! x) d j i < 2 ^ 41 := scanUp_bd _ _ hi (by omega)
    have e := Sort.partEqLoop_eq (ltc c) a i j d
    rw [e] at hQ
    obtain ⟨il, hil⟩ : ∃ x, x = Jtm.inLoop L115_7 := ⟨_, rfl⟩; rw [li_eq' il hil]
    simp -implicitDefEqProofs (disch := first | omega | with_unfolding_all exact eqR (Eq.refl _)) [nums, -getElem!_pos, -Int.natCast_add, -Int.natCast_mul, -Int.natCast_ediv, L115_7]
    refine l115_1 (len := len) (lo := lo) (ex := ex) hc a j _ i σ rfl h0 h1 h4 h11 h12 hid hd ha hj hp hi hl hs fun σ1 q0 q1 q4 qi qj => ?_
    simp -implicitDefEqProofs (disch := first | omega | with_unfolding_all exact eqR (Eq.refl _)) [nums, -getElem!_pos, -Int.natCast_add, -Int.natCast_mul, -Int.natCast_ediv, S115_6]
    refine l115_3 (len := len) (lo := lo) (ex := ex) hc a _ j σ1 q0 q1 q4 qi qj hid hd ha hj (by omega) u3 hl hs fun σ2 r0 r1 r4 ri rj => ?_
    clear e qi qj
    generalize hi2 : Sort.scanUp (fun x => !(ltc c) d[a]! x) d j i = i2 at *
    generalize hj2 : Sort.scanDown (fun x => (ltc c) d[a]! x) d i2 j = j2 at *
    by_cases c1 : i2 > j2
    · rw [if_pos c1] at hQ
      simp -implicitDefEqProofs (disch := first | omega | with_unfolding_all exact eqR (Eq.refl _)) [nums, -getElem!_pos, -Int.natCast_add, -Int.natCast_mul, -Int.natCast_ediv, S115_5, r0, r1, r4, ri, rj]
      subst hil
      try simp -implicitDefEqProofs (disch := first | omega | with_unfolding_all exact eqR (Eq.refl _)) [nums, -getElem!_pos, -Int.natCast_add, -Int.natCast_mul, -Int.natCast_ediv]
      refine hQ _ _ ?_ ?_ ?_ ?_ (.refl hid hd)
      all_goals simp [r0, r1, r4, ri, rj]
    · rw [if_neg c1] at hQ
      simp -implicitDefEqProofs (disch := first | omega | with_unfolding_all exact eqR (Eq.refl _)) [nums, -getElem!_pos, -Int.natCast_add, -Int.natCast_mul, -Int.natCast_ediv, S115_5, S115_4, r0, r1, r4, ri, rj, hd, loadM, storeM, storeM2]
      subst hil
      try simp -implicitDefEqProofs (disch := first | omega | with_unfolding_all exact eqR (Eq.refl _)) [nums, -getElem!_pos, -Int.natCast_add, -Int.natCast_mul, -Int.natCast_ediv]
      refine ih (i2 + 1) (j2 - 1) _ _ (Sort.swp d i2 j2) (by omega) ?_ ?_ ?_ ?_ ?_ (by exact hid) ?_ ha (by omega) (by omega) (by omega) (by rw [swp_size]; exact hl) (by rw [swp_size]; exact hs) fun σ' H' q0 q1 q4 qr hw => hQ σ' H' q0 q1 q4 qr (.trans (.trans (.set hid) (.set hid)) hw)
      all_goals simp [r0, r1, r4, ri, rj, Sort.swp]


theorem l116_11 (hc : CmpM g c) (a : Nat) : ∀ (m i j : Nat) (σ : Sig) (H : Heap) (d : Array Mo), j + 1 - i ≤ m → σ 0 = .sl id 0 len lo ex 8 → σ 1 = .int .i64 (a : Nat) → σ 4 = .fn g [] [] → σ 12 = .int .i64 (i : Nat) → σ 13 = .int .i64 (j : Nat) →
    id < H.next → H.obj id = .cells (tM.arr d) none → a < len → j < len → 1 ≤ i → i < 2 ^ 41 → len ≤ d.size → d.size < 2 ^ 40 →
    (∀ σ' H', σ' 0 = .sl id 0 len lo ex 8 → σ' 1 = .int .i64 (a : Nat) → σ' 4 = .fn g [] [] → σ' 13 = .int .i64 ((Sort.partLoop (ltc c) a i j d).1 : Nat) → Wr H H' id (.cells (tM.arr (Sort.partLoop (ltc c) a i j d).2) none) → Res (ai (callI tab) s k .nrm σ' H') Q) →
    Res (li (callI tab) L116_11 (.inBlock 4 :: s) k σ H) Q := by
  intro m
  induction m with
  | zero =>
    intro i j σ H d hm h0 h1 h4 h12 h13 hid hd ha hj hp hi hl hs hQ
    have u1 := Sort.scanUp_ge (fun x => (ltc c) x d[a]!) d j i
    have u2 := Sort.scanDown_le (fun x => !(ltc c) x d[a]!) d (Sort.scanUp (fun x => (ltc c) x d[a]!) d j i) j
    have u3 : Sort.scanUp (fun x => (ltc c) x d[a]!) d j i < 2 ^ 41 := scanUp_bd _ _ hi (by omega)
    have e := Sort.partLoop_eq (ltc c) a i j d
    rw [if_pos (by omega)] at e
    rw [e] at hQ
    obtain ⟨il, hil⟩ : ∃ x, x = Jtm.inLoop L116_11 := ⟨_, rfl⟩; rw [li_eq' il hil]
    simp -implicitDefEqProofs (disch := first | omega | with_unfolding_all exact eqR (Eq.refl _)) [nums, -getElem!_pos, -Int.natCast_add, -Int.natCast_mul, -Int.natCast_ediv, L116_11]
    refine l116_5 (len := len) (lo := lo) (ex := ex) hc a j _ i σ rfl h0 h1 h4 h12 h13 hid hd ha hj hp hi hl hs fun σ1 q0 q1 q4 qi qj => ?_
    simp -implicitDefEqProofs (disch := first | omega | with_unfolding_all exact eqR (Eq.refl _)) [nums, -getElem!_pos, -Int.natCast_add, -Int.natCast_mul, -Int.natCast_ediv, S116_10]
    refine l116_7 (len := len) (lo := lo) (ex := ex) hc a _ j σ1 q0 q1 q4 qi qj hid hd ha hj (by omega) u3 hl hs fun σ2 r0 r1 r4 ri rj => ?_
    simp -implicitDefEqProofs (disch := first | omega | with_unfolding_all exact eqR (Eq.refl _)) [nums, -getElem!_pos, -Int.natCast_add, -Int.natCast_mul, -Int.natCast_ediv, S116_9, r0, r1, r4, ri, rj]
    subst hil
    try simp -implicitDefEqProofs (disch := first | omega | with_unfolding_all exact eqR (Eq.refl _)) [nums, -getElem!_pos, -Int.natCast_add, -Int.natCast_mul, -Int.natCast_ediv]
    refine hQ _ _ ?_ ?_ ?_ ?_ (.refl hid hd)
    all_goals simp [r0, r1, r4, ri, rj]
  | succ m ih =>
    intro i j σ H d hm h0 h1 h4 h12 h13 hid hd ha hj hp hi hl hs hQ
    have u1 := Sort.scanUp_ge (fun x => (ltc c) x d[a]!) d j i
    have u2 := Sort.scanDown_le (fun x => !(ltc c) x d[a]!) d (Sort.scanUp (fun x => (ltc c) x d[a]!) d j i) j
    have u3 : Sort.scanUp (fun x => (ltc c) x d[a]!) d j i < 2 ^ 41 := scanUp_bd _ _ hi (by omega)
    have e := Sort.partLoop_eq (ltc c) a i j d
    rw [e] at hQ
    obtain ⟨il, hil⟩ : ∃ x, x = Jtm.inLoop L116_11 := ⟨_, rfl⟩; rw [li_eq' il hil]
    simp -implicitDefEqProofs (disch := first | omega | with_unfolding_all exact eqR (Eq.refl _)) [nums, -getElem!_pos, -Int.natCast_add, -Int.natCast_mul, -Int.natCast_ediv, L116_11]
    refine l116_5 (len := len) (lo := lo) (ex := ex) hc a j _ i σ rfl h0 h1 h4 h12 h13 hid hd ha hj hp hi hl hs fun σ1 q0 q1 q4 qi qj => ?_
    simp -implicitDefEqProofs (disch := first | omega | with_unfolding_all exact eqR (Eq.refl _)) [nums, -getElem!_pos, -Int.natCast_add, -Int.natCast_mul, -Int.natCast_ediv, S116_10]
    refine l116_7 (len := len) (lo := lo) (ex := ex) hc a _ j σ1 q0 q1 q4 qi qj hid hd ha hj (by omega) u3 hl hs fun σ2 r0 r1 r4 ri rj => ?_
    clear e qi qj
    generalize hi2 : Sort.scanUp (fun x => (ltc c) x d[a]!) d j i = i2 at *
    generalize hj2 : Sort.scanDown (fun x => !(ltc c) x d[a]!) d i2 j = j2 at *
    by_cases c1 : i2 > j2
    · rw [if_pos c1] at hQ
      simp -implicitDefEqProofs (disch := first | omega | with_unfolding_all exact eqR (Eq.refl _)) [nums, -getElem!_pos, -Int.natCast_add, -Int.natCast_mul, -Int.natCast_ediv, S116_9, r0, r1, r4, ri, rj]
      subst hil
      try simp -implicitDefEqProofs (disch := first | omega | with_unfolding_all exact eqR (Eq.refl _)) [nums, -getElem!_pos, -Int.natCast_add, -Int.natCast_mul, -Int.natCast_ediv]
      refine hQ _ _ ?_ ?_ ?_ ?_ (.refl hid hd)
      all_goals simp [r0, r1, r4, ri, rj]
    · rw [if_neg c1] at hQ
      simp -implicitDefEqProofs (disch := first | omega | with_unfolding_all exact eqR (Eq.refl _)) [nums, -getElem!_pos, -Int.natCast_add, -Int.natCast_mul, -Int.natCast_ediv, S116_9, S116_8, r0, r1, r4, ri, rj, hd, loadM, storeM, storeM2]
      subst hil
      try simp -implicitDefEqProofs (disch := first | omega | with_unfolding_all exact eqR (Eq.refl _)) [nums, -getElem!_pos, -Int.natCast_add, -Int.natCast_mul, -Int.natCast_ediv]
      refine ih (i2 + 1) (j2 - 1) _ _ (Sort.swp d i2 j2) (by omega) ?_ ?_ ?_ ?_ ?_ (by exact hid) ?_ ha (by omega) (by omega) (by omega) (by rw [swp_size]; exact hl) (by rw [swp_size]; exact hs) fun σ' H' q0 q1 q4 qr hw => hQ σ' H' q0 q1 q4 qr (.trans (.trans (.set hid) (.set hid)) hw)
      all_goals simp [r0, r1, r4, ri, rj, Sort.swp]


theorem call_115 (hc : CmpM g c) {a b p : Nat} {H : Heap} {d : Array Mo} (hid : id < H.next) (hd : H.obj id = (.cells (tM.arr d) none)) (hb : b ≤ len) (ha : a < b) (hp : p < b) (hl : len ≤ d.size) (hs : d.size < 2 ^ 40) :
    Res (callI tab 115 [.sl id 0 len lo ex 8, .int .i64 a, .int .i64 b, .int .i64 p, .fn g [] []] H) fun v H' => v = .int .i64 ((Sort.partitionEqual (ltc c) d a b p).1 : Nat) ∧ Wr H H' id (.cells (tM.arr (Sort.partitionEqual (ltc c) d a b p).2) none) := by
  refine .hide fun Q hQ => .enter tab_115 (by simp [AF115]) (.inl rfl) ?_
  have hid' : id < H.begin.next := hid
  simp -implicitDefEqProofs (disch := first | omega | with_unfolding_all exact eqR (Eq.refl _)) [nums, -getElem!_pos, -Int.natCast_add, -Int.natCast_mul, -Int.natCast_ediv, AF115, hd, loadM, storeM, storeM2]
  refine l115_7 (len := len) (lo := lo) (ex := ex) hc a _ (a + 1) (b - 1) _ _ (Sort.swp d a p) (Nat.le_refl _) ?_ ?_ ?_ ?_ ?_ (by exact hid) ?_ (by omega) (by omega) (by omega) (by omega) (by rw [swp_size]; exact hl) (by rw [swp_size]; exact hs) fun σ' H' q0 q1 q4 qr hw => ?_
  any_goals (first | (simp [Sort.swp]; done) | skip)
  simp -implicitDefEqProofs (disch := first | omega | with_unfolding_all exact eqR (Eq.refl _)) [nums, -getElem!_pos, -Int.natCast_add, -Int.natCast_mul, -Int.natCast_ediv, S115_8, qr]
  obtain ⟨H2, e, w⟩ := (Wr.trans (.trans (.set hid') (.set hid')) hw).toFx.wrapA (H := H) (v := .int .i64 _) rfl
  rw [e]
  exact .mk (hQ _ _ ⟨rfl, w⟩)


theorem call_116 (hc : CmpM g c) {a b p : Nat} {H : Heap} {d : Array Mo} (hid : id < H.next) (hd : H.obj id = (.cells (tM.arr d) none)) (hb : b ≤ len) (ha : a < b) (hp : p < b) (hl : len ≤ d.size) (hs : d.size < 2 ^ 40) :
    Res (callI tab 116 [.sl id 0 len lo ex 8, .int .i64 a, .int .i64 b, .int .i64 p, .fn g [] []] H) fun v H' => v = .tup [.int .i64 ((Sort.partition (ltc c) d a b p).1 : Nat), .bool (Sort.partition (ltc c) d a b p).2.1] ∧ Wr H H' id (.cells (tM.arr (Sort.partition (ltc c) d a b p).2.2) none) := by
  refine .hide fun Q hQ => .enter tab_116 (by simp [AF116]) (.inl rfl) ?_
  have hid' : id < H.begin.next := hid
  have u1 := Sort.scanUp_ge (fun x => (ltc c) x (Sort.swp d a p)[a]!) (Sort.swp d a p) (b - 1) (a + 1)
  have u2 := Sort.scanDown_le (fun x => !(ltc c) x (Sort.swp d a p)[a]!) (Sort.swp d a p) (Sort.scanUp (fun x => (ltc c) x (Sort.swp d a p)[a]!) (Sort.swp d a p) (b - 1) (a + 1)) (b - 1)
  have u3 : Sort.scanUp (fun x => (ltc c) x (Sort.swp d a p)[a]!) (Sort.swp d a p) (b - 1) (a + 1) < 2 ^ 41 := scanUp_bd _ _ (by omega) (by omega)
  have e : Sort.partition (ltc c) d a b p = if Sort.scanUp (fun x => (ltc c) x (Sort.swp d a p)[a]!) (Sort.swp d a p) (b - 1) (a + 1) > Sort.scanDown (fun x => !(ltc c) x (Sort.swp d a p)[a]!) (Sort.swp d a p) (Sort.scanUp (fun x => (ltc c) x (Sort.swp d a p)[a]!) (Sort.swp d a p) (b - 1) (a + 1)) (b - 1) then (Sort.scanDown (fun x => !(ltc c) x (Sort.swp d a p)[a]!) (Sort.swp d a p) (Sort.scanUp (fun x => (ltc c) x (Sort.swp d a p)[a]!) (Sort.swp d a p) (b - 1) (a + 1)) (b - 1), true, Sort.swp (Sort.swp d a p) (Sort.scanDown (fun x => !(ltc c) x (Sort.swp d a p)[a]!) (Sort.swp d a p) (Sort.scanUp (fun x => (ltc c) x (Sort.swp d a p)[a]!) (Sort.swp d a p) (b - 1) (a + 1)) (b - 1)) a) else
    ((Sort.partLoop (ltc c) a (Sort.scanUp (fun x => (ltc c) x (Sort.swp d a p)[a]!) (Sort.swp d a p) (b - 1) (a + 1) + 1) (Sort.scanDown (fun x => !(ltc c) x (Sort.swp d a p)[a]!) (Sort.swp d a p) (Sort.scanUp (fun x => (ltc c) x (Sort.swp d a p)[a]!) (Sort.swp d a p) (b - 1) (a + 1)) (b - 1) - 1) (Sort.swp (Sort.swp d a p) (Sort.scanUp (fun x => (ltc c) x (Sort.swp d a p)[a]!) (Sort.swp d a p) (b - 1) (a + 1)) (Sort.scanDown (fun x => !(ltc c) x (Sort.swp d a p)[a]!) (Sort.swp d a p) (Sort.scanUp (fun x => (ltc c) x (Sort.swp d a p)[a]!) (Sort.swp d a p) (b - 1) (a + 1)) (b - 1)))).1, false,
      Sort.swp (Sort.partLoop (ltc c) a (Sort.scanUp (fun x => (ltc c) x (Sort.swp d a p)[a]!) (Sort.swp d a p) (b - 1) (a + 1) + 1) (Sort.scanDown (fun x => !(ltc c) x (Sort.swp d a p)[a]!) (Sort.swp d a p) (Sort.scanUp (fun x => (ltc c) x (Sort.swp d a p)[a]!) (Sort.swp d a p) (b - 1) (a + 1)) (b - 1) - 1) (Sort.swp (Sort.swp d a p) (Sort.scanUp (fun x => (ltc c) x (Sort.swp d a p)[a]!) (Sort.swp d a p) (b - 1) (a + 1)) (Sort.scanDown (fun x => !(ltc c) x (Sort.swp d a p)[a]!) (Sort.swp d a p) (Sort.scanUp (fun x => (ltc c) x (Sort.swp d a p)[a]!) (Sort.swp d a p) (b - 1) (a + 1)) (b - 1)))).2 (Sort.partLoop (ltc c) a (Sort.scanUp (fun x => (ltc c) x (Sort.swp d a p)[a]!) (Sort.swp d a p) (b - 1) (a + 1) + 1) (Sort.scanDown (fun x => !(ltc c) x (Sort.swp d a p)[a]!) (Sort.swp d a p) (Sort.scanUp (fun x => (ltc c) x (Sort.swp d a p)[a]!) (Sort.swp d a p) (b - 1) (a + 1)) (b - 1) - 1) (Sort.swp (Sort.swp d a p) (Sort.scanUp (fun x => (ltc c) x (Sort.swp d a p)[a]!) (Sort.swp d a p) (b - 1) (a + 1)) (Sort.scanDown (fun x => !(ltc c) x (Sort.swp d a p)[a]!) (Sort.swp d a p) (Sort.scanUp (fun x => (ltc c) x (Sort.swp d a p)[a]!) (Sort.swp d a p) (b - 1) (a + 1)) (b - 1)))).1 a) := rfl
  rw [e] at hQ
  clear e
  simp -implicitDefEqProofs (disch := first | omega | with_unfolding_all exact eqR (Eq.refl _)) [nums, -getElem!_pos, -Int.natCast_add, -Int.natCast_mul, -Int.natCast_ediv, AF116, hd, loadM, storeM, storeM2]
  refine l116_1 (len := len) (lo := lo) (ex := ex) hc a (b - 1) (d := (Sort.swp d a p)) _ (a + 1) _ rfl ?_ ?_ ?_ ?_ ?_ (by exact hid) ?_ (by omega) (by omega) (by omega) (by omega) (by rw [swp_size]; exact hl) (by rw [swp_size]; exact hs) fun σ1 q0 q1 q4 qi qj => ?_
  any_goals (first | (simp [Sort.swp]; done) | skip)
  simp -implicitDefEqProofs (disch := first | omega | with_unfolding_all exact eqR (Eq.refl _)) [nums, -getElem!_pos, -Int.natCast_add, -Int.natCast_mul, -Int.natCast_ediv, S116_15]
  refine l116_3 (len := len) (lo := lo) (ex := ex) hc a _ (d := (Sort.swp d a p)) (b - 1) σ1 q0 q1 q4 qi qj (by exact hid) (by simp [Sort.swp]) (by omega) (by omega) (by omega) u3 (by rw [swp_size]; exact hl) (by rw [swp_size]; exact hs) fun σ2 r0 r1 r4 ri rj => ?_
  clear qi qj
  generalize hi2 : Sort.scanUp (fun x => (ltc c) x (Sort.swp d a p)[a]!) (Sort.swp d a p) (b - 1) (a + 1) = i2 at *
  generalize hj2 : Sort.scanDown (fun x => !(ltc c) x (Sort.swp d a p)[a]!) (Sort.swp d a p) i2 (b - 1) = j2 at *
  have sz : (Sort.swp d a p).size = d.size := swp_size _ _ _
  generalize hd1 : (Sort.swp d a p) = d1 at *
  have hd1' : ((H.begin.set id (AObj.cells (tM.arr (d.setIfInBounds a d[p]!)) none)).set id (AObj.cells (tM.arr ((d.setIfInBounds a d[p]!).setIfInBounds p d[a]!)) none)).obj id = .cells (tM.arr d1) none := by rw [← hd1]; simp [Sort.swp]
  have w1 : Wr H.begin ((H.begin.set id (AObj.cells (tM.arr (d.setIfInBounds a d[p]!)) none)).set id (AObj.cells (tM.arr ((d.setIfInBounds a d[p]!).setIfInBounds p d[a]!)) none)) id (.cells (tM.arr d1) none) := by rw [← hd1]; exact .trans (.set hid') (.set hid')
  generalize hH1 : (H.begin.set id (AObj.cells (tM.arr (d.setIfInBounds a d[p]!)) none)).set id (AObj.cells (tM.arr ((d.setIfInBounds a d[p]!).setIfInBounds p d[a]!)) none) = H1 at *
  have hid1 : id < H1.next := by rw [w1.nxt]; exact hid
  by_cases c1 : i2 > j2
  · rw [if_pos c1] at hQ
    simp -implicitDefEqProofs (disch := first | omega | with_unfolding_all exact eqR (Eq.refl _)) [nums, -getElem!_pos, -Int.natCast_add, -Int.natCast_mul, -Int.natCast_ediv, S116_14, r0, r1, r4, ri, rj, hd1', loadM, storeM, storeM2]
    obtain ⟨H2, e, w⟩ := (w1.trans (Wr.trans (o2 := .cells (tM.arr (Sort.swp d1 j2 a)) none) (.set hid1) (.set hid1))).toFx.wrapA (H := H) (v := .tup [.int .i64 j2, .bool true]) rfl
    simp only [Sort.swp] at e
    rw [e]
    exact .mk (hQ _ _ ⟨rfl, w⟩)
  · rw [if_neg c1] at hQ
    simp -implicitDefEqProofs (disch := first | omega | with_unfolding_all exact eqR (Eq.refl _)) [nums, -getElem!_pos, -Int.natCast_add, -Int.natCast_mul, -Int.natCast_ediv, S116_14, S116_13, r0, r1, r4, ri, rj, hd1', loadM, storeM, storeM2]
    have pz := partLoop_size (ltc c) a _ (i2 + 1) (j2 - 1) (Sort.swp d1 i2 j2) (Nat.le_refl _)
    rw [swp_size] at pz
    refine l116_11 (len := len) (lo := lo) (ex := ex) hc a _ (i2 + 1) (j2 - 1) _ _ (Sort.swp d1 i2 j2) (Nat.le_refl _) ?_ ?_ ?_ ?_ ?_ (by exact hid1) ?_ (by omega) (by omega) (by omega) (by omega) (by rw [swp_size]; omega) (by rw [swp_size]; omega) fun σ3 H3 t0 t1 t4 tr hw => ?_
    any_goals (first | (simp [r0, r1, r4, ri, rj, Sort.swp]; done) | skip)
    generalize hR : Sort.partLoop (ltc c) a (i2 + 1) (j2 - 1) (Sort.swp d1 i2 j2) = R at *
    have hd3 := hw.at
    have hid3 : id < H3.next := by rw [hw.nxt]; exact hid1
    have w3 : Wr H.begin H3 id (.cells (tM.arr R.2) none) := w1.trans (.trans (.trans (.set hid1) (.set hid1)) hw)
    simp -implicitDefEqProofs (disch := first | omega | with_unfolding_all exact eqR (Eq.refl _)) [nums, -getElem!_pos, -Int.natCast_add, -Int.natCast_mul, -Int.natCast_ediv, S116_12, t0, t1, t4, tr, hd3, loadM, storeM, storeM2]
    obtain ⟨H2, e, w⟩ := (w3.trans (Wr.trans (o2 := .cells (tM.arr (Sort.swp R.2 R.1 a)) none) (.set hid3) (.set hid3))).toFx.wrapA (H := H) (v := .tup [.int .i64 R.1, .bool false]) rfl
    simp only [Sort.swp] at e
    rw [e]
    exact .mk (hQ _ _ ⟨rfl, w⟩)


theorem l136_1 (a j : Nat) {H : Heap} {d : Array Int} : ∀ (m i : Nat) (σ : Sig), j + 1 - i = m → σ 0 = .sl id 0 len lo ex 1 → σ 1 = .int .i64 (a : Nat) → σ 9 = .int .i64 (i : Nat) → σ 10 = .int .i64 (j : Nat) → id < H.next → H.obj id = .cells (tB.arr d) none → a < len → j < len → 1 ≤ i → i < 2 ^ 41 → len ≤ d.size → d.size < 2 ^ 40 →
    (∀ σ', σ' 0 = .sl id 0 len lo ex 1 → σ' 1 = .int .i64 (a : Nat) → σ' 9 = .int .i64 (Sort.scanUp (fun x => !ltB d[a]! x) d j i : Nat) → σ' 10 = .int .i64 (j : Nat) → Res (ai (callI tab) s k .nrm σ' H) Q) →
    Res (li (callI tab) L136_1 (.inBlock 2 :: s) k σ H) Q := by
  intro m
  induction m with
  | zero =>
    intro i σ hm h0 h1 h11 h12 hid hd ha hj hp hi hl hs hQ
    have e : Sort.scanUp (fun x => !ltB d[a]! x) d j i = i := by rw [Sort.scanUp, if_neg (by simp only [Bool.and_eq_true, decide_eq_true_eq]; omega)]
    rw [e] at hQ
    obtain ⟨il, hil⟩ : ∃ x, x = Jtm.inLoop L136_1 := ⟨_, rfl⟩; rw [li_eq' il hil]
    simp -implicitDefEqProofs (disch := first | omega | with_unfolding_all exact eqR (Eq.refl _)) [nums, -getElem!_pos, -Int.natCast_add, -Int.natCast_mul, -Int.natCast_ediv, L136_1, S136_0, h0, h1, h11, h12, hd, call_135, loadB, storeB, storeB2]
    subst hil
    try simp -implicitDefEqProofs (disch := first | omega | with_unfolding_all exact eqR (Eq.refl _)) [nums, -getElem!_pos, -Int.natCast_add, -Int.natCast_mul, -Int.natCast_ediv]
    refine hQ _ ?_ ?_ ?_ ?_ <;> simp [h0, h1, h11, h12]
  | succ m ih =>
    intro i σ hm h0 h1 h11 h12 hid hd ha hj hp hi hl hs hQ
    by_cases c2 : d[a]! < d[i]!
    · have e : Sort.scanUp (fun x => !ltB d[a]! x) d j i = i := by
        rw [Sort.scanUp, if_neg (by simp only [Bool.and_eq_true, decide_eq_true_eq, ltB, c2]; simp)]
      rw [e] at hQ
      obtain ⟨il, hil⟩ : ∃ x, x = Jtm.inLoop L136_1 := ⟨_, rfl⟩; rw [li_eq' il hil]
      simp -implicitDefEqProofs (disch := first | omega | with_unfolding_all exact eqR (Eq.refl _)) [nums, -getElem!_pos, -Int.natCast_add, -Int.natCast_mul, -Int.natCast_ediv, L136_1, S136_0, h0, h1, h11, h12, hd, call_135, loadB, storeB, storeB2]
      subst hil
      try simp -implicitDefEqProofs (disch := first | omega | with_unfolding_all exact eqR (Eq.refl _)) [nums, -getElem!_pos, -Int.natCast_add, -Int.natCast_mul, -Int.natCast_ediv]
      refine hQ _ ?_ ?_ ?_ ?_ <;> simp [h0, h1, h11, h12]
      
    · have e : Sort.scanUp (fun x => !ltB d[a]! x) d j i = Sort.scanUp (fun x => !ltB d[a]! x) d j (i + 1) := by
        rw [Sort.scanUp, if_pos (by simp only [Bool.and_eq_true, decide_eq_true_eq, ltB, c2]; simp; omega)]
      rw [e] at hQ
      obtain ⟨il, hil⟩ : ∃ x, x = Jtm.inLoop L136_1 := ⟨_, rfl⟩; rw [li_eq' il hil]
      simp -implicitDefEqProofs (disch := first | omega | with_unfolding_all exact eqR (Eq.refl _)) [nums, -getElem!_pos, -Int.natCast_add, -Int.natCast_mul, -Int.natCast_ediv, L136_1, S136_0, h0, h1, h11, h12, hd, call_135, loadB, storeB, storeB2]
      subst hil
      try simp -implicitDefEqProofs (disch := first | omega | with_unfolding_all exact eqR (Eq.refl _)) [nums, -getElem!_pos, -Int.natCast_add, -Int.natCast_mul, -Int.natCast_ediv]
      refine ih (i + 1) _ (by omega) ?_ ?_ ?_ ?_ hid hd ha hj (by omega) (by omega) hl hs hQ
      all_goals simp [h0, h1, h11, h12]


theorem l136_3 (a i : Nat) {H : Heap} {d : Array Int} : ∀ (j : Nat) (σ : Sig), σ 0 = .sl id 0 len lo ex 1 → σ 1 = .int .i64 (a : Nat) → σ 9 = .int .i64 (i : Nat) → σ 10 = .int .i64 (j : Nat) → id < H.next → H.obj id = .cells (tB.arr d) none → a < len → j < len → 1 ≤ i → i < 2 ^ 41 → len ≤ d.size → d.size < 2 ^ 40 →
    (∀ σ', σ' 0 = .sl id 0 len lo ex 1 → σ' 1 = .int .i64 (a : Nat) → σ' 9 = .int .i64 (i : Nat) → σ' 10 = .int .i64 (Sort.scanDown (fun x => ltB d[a]! x) d i j : Nat) → Res (ai (callI tab) s k .nrm σ' H) Q) →
    Res (li (callI tab) L136_3 (.inBlock 4 :: s) k σ H) Q := by
  intro j
  induction j with
  | zero =>
    intro σ h0 h1 h11 h12 hid hd ha hj hp hi hl hs hQ
    have e : Sort.scanDown (fun x => ltB d[a]! x) d i 0 = 0 := rfl
    rw [e] at hQ
    obtain ⟨il, hil⟩ : ∃ x, x = Jtm.inLoop L136_3 := ⟨_, rfl⟩; rw [li_eq' il hil]
    simp -implicitDefEqProofs (disch := first | omega | with_unfolding_all exact eqR (Eq.refl _)) [nums, -getElem!_pos, -Int.natCast_add, -Int.natCast_mul, -Int.natCast_ediv, L136_3, S136_2, h0, h1, h11, h12, hd, call_135, loadB, storeB, storeB2]
    subst hil
    try simp -implicitDefEqProofs (disch := first | omega | with_unfolding_all exact eqR (Eq.refl _)) [nums, -getElem!_pos, -Int.natCast_add, -Int.natCast_mul, -Int.natCast_ediv]
    refine hQ _ ?_ ?_ ?_ ?_ <;> simp [h0, h1, h11, h12]
  | succ j ih =>
    intro σ h0 h1 h11 h12 hid hd ha hj hp hi hl hs hQ
    by_cases c1 : i ≤ j + 1
    · by_cases c2 : d[a]! < d[j + 1]!
      · have e : Sort.scanDown (fun x => ltB d[a]! x) d i (j + 1) = Sort.scanDown (fun x => ltB d[a]! x) d i j := by
          rw [Sort.scanDown, if_pos (by simp only [Bool.and_eq_true, decide_eq_true_eq, ltB, c2]; simp; omega)]
        rw [e] at hQ
        obtain ⟨il, hil⟩ : ∃ x, x = Jtm.inLoop L136_3 := ⟨_, rfl⟩; rw [li_eq' il hil]
        simp -implicitDefEqProofs (disch := first | omega | with_unfolding_all exact eqR (Eq.refl _)) [nums, -getElem!_pos, -Int.natCast_add, -Int.natCast_mul, -Int.natCast_ediv, L136_3, S136_2, h0, h1, h11, h12, hd, call_135, loadB, storeB, storeB2]
        subst hil
        try simp -implicitDefEqProofs (disch := first | omega | with_unfolding_all exact eqR (Eq.refl _)) [nums, -getElem!_pos, -Int.natCast_add, -Int.natCast_mul, -Int.natCast_ediv]
        refine ih _ ?_ ?_ ?_ ?_ hid hd ha (by omega) hp hi hl hs hQ
        all_goals simp [h0, h1, h11, h12]
      · have e : Sort.scanDown (fun x => ltB d[a]! x) d i (j + 1) = j + 1 := by
          rw [Sort.scanDown, if_neg (by simp only [Bool.and_eq_true, decide_eq_true_eq, ltB, c2]; simp)]
        rw [e] at hQ
        obtain ⟨il, hil⟩ : ∃ x, x = Jtm.inLoop L136_3 := ⟨_, rfl⟩; rw [li_eq' il hil]
        simp -implicitDefEqProofs (disch := first | omega | with_unfolding_all exact eqR (Eq.refl _)) [nums, -getElem!_pos, -Int.natCast_add, -Int.natCast_mul, -Int.natCast_ediv, L136_3, S136_2, h0, h1, h11, h12, hd, call_135, loadB, storeB, storeB2]
        subst hil
        try simp -implicitDefEqProofs (disch := first | omega | with_unfolding_all exact eqR (Eq.refl _)) [nums, -getElem!_pos, -Int.natCast_add, -Int.natCast_mul, -Int.natCast_ediv]
        refine hQ _ ?_ ?_ ?_ ?_ <;> simp [h0, h1, h11, h12]
        
    · have e : Sort.scanDown (fun x => ltB d[a]! x) d i (j + 1) = j + 1 := by
        rw [Sort.scanDown, if_neg (by simp only [Bool.and_eq_true, decide_eq_true_eq]; omega)]
      rw [e] at hQ
      obtain ⟨il, hil⟩ : ∃ x, x = Jtm.inLoop L136_3 := ⟨_, rfl⟩; rw [li_eq' il hil]
      simp -implicitDefEqProofs (disch := first | omega | with_unfolding_all exact eqR (Eq.refl _)) [nums, -getElem!_pos, -Int.natCast_add, -Int.natCast_mul, -Int.natCast_ediv, L136_3, S136_2, h0, h1, h11, h12, hd, call_135, loadB, storeB, storeB2]
      subst hil
      try simp -implicitDefEqProofs (disch := first | omega | with_unfolding_all exact eqR (Eq.refl _)) [nums, -getElem!_pos, -Int.natCast_add, -Int.natCast_mul, -Int.natCast_ediv]
      refine hQ _ ?_ ?_ ?_ ?_ <;> simp [h0, h1, h11, h12]


theorem l137_1 (a j : Nat) {H : Heap} {d : Array Int} : ∀ (m i : Nat) (σ : Sig), j + 1 - i = m → σ 0 = .sl id 0 len lo ex 1 → σ 1 = .int .i64 (a : Nat) → σ 10 = .int .i64 (i : Nat) → σ 11 = .int .i64 (j : Nat) → id < H.next → H.obj id = .cells (tB.arr d) none → a < len → j < len → 1 ≤ i → i < 2 ^ 41 → len ≤ d.size → d.size < 2 ^ 40 →
    (∀ σ', σ' 0 = .sl id 0 len lo ex 1 → σ' 1 = .int .i64 (a : Nat) → σ' 10 = .int .i64 (Sort.scanUp (fun x => ltB x d[a]!) d j i : Nat) → σ' 11 = .int .i64 (j : Nat) → Res (ai (callI tab) s k .nrm σ' H) Q) →
    Res (li (callI tab) L137_1 (.inBlock 0 :: s) k σ H) Q := by
  intro m
  induction m with
  | zero =>
    intro i σ hm h0 h1 h12 h13 hid hd ha hj hp hi hl hs hQ
    have e : Sort.scanUp (fun x => ltB x d[a]!) d j i = i := by rw [Sort.scanUp, if_neg (by simp only [Bool.and_eq_true, decide_eq_true_eq]; omega)]
    rw [e] at hQ
    obtain ⟨il, hil⟩ : ∃ x, x = Jtm.inLoop L137_1 := ⟨_, rfl⟩; rw [li_eq' il hil]
    simp -implicitDefEqProofs (disch := first | omega | with_unfolding_all exact eqR (Eq.refl _)) [nums, -getElem!_pos, -Int.natCast_add, -Int.natCast_mul, -Int.natCast_ediv, L137_1, S137_0, h0, h1, h12, h13, hd, call_135, loadB, storeB, storeB2]
    subst hil
    try simp -implicitDefEqProofs (disch := first | omega | with_unfolding_all exact eqR (Eq.refl _)) [nums, -getElem!_pos, -Int.natCast_add, -Int.natCast_mul, -Int.natCast_ediv]
    refine hQ _ ?_ ?_ ?_ ?_ <;> simp [h0, h1, h12, h13]
  | succ m ih =>
    intro i σ hm h0 h1 h12 h13 hid hd ha hj hp hi hl hs hQ
    by_cases c2 : d[i]! < d[a]!
    · have e : Sort.scanUp (fun x => ltB x d[a]!) d j i = Sort.scanUp (fun x => ltB x d[a]!) d j (i + 1) := by
        rw [Sort.scanUp, if_pos (by simp only [Bool.and_eq_true, decide_eq_true_eq, ltB, c2]; simp; omega)]
      rw [e] at hQ
      obtain ⟨il, hil⟩ : ∃ x, x = Jtm.inLoop L137_1 := ⟨_, rfl⟩; rw [li_eq' il hil]
      simp -implicitDefEqProofs (disch := first | omega | with_unfolding_all exact eqR (Eq.refl _)) [nums, -getElem!_pos, -Int.natCast_add, -Int.natCast_mul, -Int.natCast_ediv, L137_1, S137_0, h0, h1, h12, h13, hd, call_135, loadB, storeB, storeB2]
      subst hil
      try simp -implicitDefEqProofs (disch := first | omega | with_unfolding_all exact eqR (Eq.refl _)) [nums, -getElem!_pos, -Int.natCast_add, -Int.natCast_mul, -Int.natCast_ediv]
      refine ih (i + 1) _ (by omega) ?_ ?_ ?_ ?_ hid hd ha hj (by omega) (by omega) hl hs hQ
      all_goals simp [h0, h1, h12, h13]
    · have e : Sort.scanUp (fun x => ltB x d[a]!) d j i = i := by
        rw [Sort.scanUp, if_neg (by simp only [Bool.and_eq_true, decide_eq_true_eq, ltB, c2]; simp)]
      rw [e] at hQ
      obtain ⟨il, hil⟩ : ∃ x, x = Jtm.inLoop L137_1 := ⟨_, rfl⟩; rw [li_eq' il hil]
      simp -implicitDefEqProofs (disch := first | omega | with_unfolding_all exact eqR (Eq.refl _)) [nums, -getElem!_pos, -Int.natCast_add, -Int.natCast_mul, -Int.natCast_ediv, L137_1, S137_0, h0, h1, h12, h13, hd, call_135, loadB, storeB, storeB2]
      subst hil
      try simp -implicitDefEqProofs (disch := first | omega | with_unfolding_all exact eqR (Eq.refl _)) [nums, -getElem!_pos, -Int.natCast_add, -Int.natCast_mul, -Int.natCast_ediv]
      refine hQ _ ?_ ?_ ?_ ?_ <;> simp [h0, h1, h12, h13]
      


theorem l137_3 (a i : Nat) {H : Heap} {d : Array Int} : ∀ (j : Nat) (σ : Sig), σ 0 = .sl id 0 len lo ex 1 → σ 1 = .int .i64 (a : Nat) → σ 10 = .int .i64 (i : Nat) → σ 11 = .int .i64 (j : Nat) → id < H.next → H.obj id = .cells (tB.arr d) none → a < len → j < len → 1 ≤ i → i < 2 ^ 41 → len ≤ d.size → d.size < 2 ^ 40 →
    (∀ σ', σ' 0 = .sl id 0 len lo ex 1 → σ' 1 = .int .i64 (a : Nat) → σ' 10 = .int .i64 (i : Nat) → σ' 11 = .int .i64 (Sort.scanDown (fun x => !ltB x d[a]!) d i j : Nat) → Res (ai (callI tab) s k .nrm σ' H) Q) →
    Res (li (callI tab) L137_3 (.inBlock 2 :: s) k σ H) Q := by
  intro j
  induction j with
  | zero =>
    intro σ h0 h1 h12 h13 hid hd ha hj hp hi hl hs hQ
    have e : Sort.scanDown (fun x => !ltB x d[a]!) d i 0 = 0 := rfl
    rw [e] at hQ
    obtain ⟨il, hil⟩ : ∃ x, x = Jtm.inLoop L137_3 := ⟨_, rfl⟩; rw [li_eq' il hil]
    simp -implicitDefEqProofs (disch := first | omega | with_unfolding_all exact eqR (Eq.refl _)) [nums, -getElem!_pos, -Int.natCast_add, -Int.natCast_mul, -Int.natCast_ediv, L137_3, S137_2, h0, h1, h12, h13, hd, call_135, loadB, storeB, storeB2]
    subst hil
    try simp -implicitDefEqProofs (disch := first | omega | with_unfolding_all exact eqR (Eq.refl _)) [nums, -getElem!_pos, -Int.natCast_add, -Int.natCast_mul, -Int.natCast_ediv]
    refine hQ _ ?_ ?_ ?_ ?_ <;> simp [h0, h1, h12, h13]
  | succ j ih =>
    intro σ h0 h1 h12 h13 hid hd ha hj hp hi hl hs hQ
    by_cases c1 : i ≤ j + 1
    · by_cases c2 : d[j + 1]! < d[a]!
      · have e : Sort.scanDown (fun x => !ltB x d[a]!) d i (j + 1) = j + 1 := by
          rw [Sort.scanDown, if_neg (by simp only [Bool.and_eq_true, decide_eq_true_eq, ltB, c2]; simp)]
        rw [e] at hQ
        obtain ⟨il, hil⟩ : ∃ x, x = Jtm.inLoop L137_3 := ⟨_, rfl⟩; rw [li_eq' il hil]
        simp -implicitDefEqProofs (disch := first | omega | with_unfolding_all exact eqR (Eq.refl _)) [nums, -getElem!_pos, -Int.natCast_add, -Int.natCast_mul, -Int.natCast_ediv, L137_3, S137_2, h0, h1, h12, h13, hd, call_135, loadB, storeB, storeB2]
        subst hil
        try simp -implicitDefEqProofs (disch := first | omega | with_unfolding_all exact eqR (Eq.refl _)) [nums, -getElem!_pos, -Int.natCast_add, -Int.natCast_mul, -Int.natCast_ediv]
        refine hQ _ ?_ ?_ ?_ ?_ <;> simp [h0, h1, h12, h13]
        
      · have e : Sort.scanDown (fun x => !ltB x d[a]!) d i (j + 1) = Sort.scanDown (fun x => !ltB x d[a]!) d i j := by
          rw [Sort.scanDown, if_pos (by simp only [Bool.and_eq_true, decide_eq_true_eq, ltB, c2]; simp; omega)]
        rw [e] at hQ
        obtain ⟨il, hil⟩ : ∃ x, x = Jtm.inLoop L137_3 := ⟨_, rfl⟩; rw [li_eq' il hil]
        simp -implicitDefEqProofs (disch := first | omega | with_unfolding_all exact eqR (Eq.refl _)) [nums, -getElem!_pos, -Int.natCast_add, -Int.natCast_mul, -Int.natCast_ediv, L137_3, S137_2, h0, h1, h12, h13, hd, call_135, loadB, storeB, storeB2]
        subst hil
        try simp -implicitDefEqProofs (disch := first | omega | with_unfolding_all exact eqR (Eq.refl _)) [nums, -getElem!_pos, -Int.natCast_add, -Int.natCast_mul, -Int.natCast_ediv]
        refine ih _ ?_ ?_ ?_ ?_ hid hd ha (by omega) hp hi hl hs hQ
        all_goals simp [h0, h1, h12, h13]
    · have e : Sort.scanDown (fun x => !ltB x d[a]!) d i (j + 1) = j + 1 := by
        rw [Sort.scanDown, if_neg (by simp only [Bool.and_eq_true, decide_eq_true_eq]; omega)]
      rw [e] at hQ
      obtain ⟨il, hil⟩ : ∃ x, x = Jtm.inLoop L137_3 := ⟨_, rfl⟩; rw [li_eq' il hil]
      simp -implicitDefEqProofs (disch := first | omega | with_unfolding_all exact eqR (Eq.refl _)) [nums, -getElem!_pos, -Int.natCast_add, -Int.natCast_mul, -Int.natCast_ediv, L137_3, S137_2, h0, h1, h12, h13, hd, call_135, loadB, storeB, storeB2]
      subst hil
      try simp -implicitDefEqProofs (disch := first | omega | with_unfolding_all exact eqR (Eq.refl _)) [nums, -getElem!_pos, -Int.natCast_add, -Int.natCast_mul, -Int.natCast_ediv]
      refine hQ _ ?_ ?_ ?_ ?_ <;> simp [h0, h1, h12, h13]


theorem l137_5 (a j : Nat) {H : Heap} {d : Array Int} : ∀ (m i : Nat) (σ : Sig), j + 1 - i = m → σ 0 = .sl id 0 len lo ex 1 → σ 1 = .int .i64 (a : Nat) → σ 10 = .int .i64 (i : Nat) → σ 11 = .int .i64 (j : Nat) → id < H.next → H.obj id = .cells (tB.arr d) none → a < len → j < len → 1 ≤ i → i < 2 ^ 41 → len ≤ d.size → d.size < 2 ^ 40 →
    (∀ σ', σ' 0 = .sl id 0 len lo ex 1 → σ' 1 = .int .i64 (a : Nat) → σ' 10 = .int .i64 (Sort.scanUp (fun x => ltB x d[a]!) d j i : Nat) → σ' 11 = .int .i64 (j : Nat) → Res (ai (callI tab) s k .nrm σ' H) Q) →
    Res (li (callI tab) L137_5 (.inBlock 6 :: s) k σ H) Q := by
  intro m
  induction m with
  | zero =>
    intro i σ hm h0 h1 h12 h13 hid hd ha hj hp hi hl hs hQ
    have e : Sort.scanUp (fun x => ltB x d[a]!) d j i = i := by rw [Sort.scanUp, if_neg (by simp only [Bool.and_eq_true, decide_eq_true_eq]; omega)]
    rw [e] at hQ
    obtain ⟨il, hil⟩ : ∃ x, x = Jtm.inLoop L137_5 := ⟨_, rfl⟩; rw [li_eq' il hil]
    simp -implicitDefEqProofs (disch := first | omega | with_unfolding_all exact eqR (Eq.refl _)) [nums, -getElem!_pos, -Int.natCast_add, -Int.natCast_mul, -Int.natCast_ediv, L137_5, S137_4, h0, h1, h12, h13, hd, call_135, loadB, storeB, storeB2]
    subst hil
    try simp -implicitDefEqProofs (disch := first | omega | with_unfolding_all exact eqR (Eq.refl _)) [nums, -getElem!_pos, -Int.natCast_add, -Int.natCast_mul, -Int.natCast_ediv]
    refine hQ _ ?_ ?_ ?_ ?_ <;> simp [h0, h1, h12, h13]
  | succ m ih =>
    intro i σ hm h0 h1 h12 h13 hid hd ha hj hp hi hl hs hQ
    by_cases c2 : d[i]! < d[a]!
    · have e : Sort.scanUp (fun x => ltB x d[a]!) d j i = Sort.scanUp (fun x => ltB x d[a]!) d j (i + 1) := by
        rw [Sort.scanUp, if_pos (by simp only [Bool.and_eq_true, decide_eq_true_eq, ltB, c2]; simp; omega)]
      rw [e] at hQ
      obtain ⟨il, hil⟩ : ∃ x, x = Jtm.inLoop L137_5 := ⟨_, rfl⟩; rw [li_eq' il hil]
      simp -implicitDefEqProofs (disch := first | omega | with_unfolding_all exact eqR (Eq.refl _)) [nums, -getElem!_pos, -Int.natCast_add, -Int.natCast_mul, -Int.natCast_ediv, L137_5, S137_4, h0, h1, h12, h13, hd, call_135, loadB, storeB, storeB2]
      subst hil
      try simp -implicitDefEqProofs (disch := first | omega | with_unfolding_all exact eqR (Eq.refl _)) [nums, -getElem!_pos, -Int.natCast_add, -Int.natCast_mul, -Int.natCast_ediv]
      refine ih (i + 1) _ (by omega) ?_ ?_ ?_ ?_ hid hd ha hj (by omega) (by omega) hl hs hQ
      all_goals simp [h0, h1, h12, h13]
    · have e : Sort.scanUp (fun x => ltB x d[a]!) d j i = i := by
        rw [Sort.scanUp, if_neg (by simp only [Bool.and_eq_true, decide_eq_true_eq, ltB, c2]; simp)]
      rw [e] at hQ
      obtain ⟨il, hil⟩ : ∃ x, x = Jtm.inLoop L137_5 := ⟨_, rfl⟩; rw [li_eq' il hil]
      simp -implicitDefEqProofs (disch := first | omega | with_unfolding_all exact eqR (Eq.refl _)) [nums, -getElem!_pos, -Int.natCast_add, -Int.natCast_mul, -Int.natCast_ediv, L137_5, S137_4, h0, h1, h12, h13, hd, call_135, loadB, storeB, storeB2]
      subst hil
      try simp -implicitDefEqProofs (disch := first | omega | with_unfolding_all exact eqR (Eq.refl _)) [nums, -getElem!_pos, -Int.natCast_add, -Int.natCast_mul, -Int.natCast_ediv]
      refine hQ _ ?_ ?_ ?_ ?_ <;> simp [h0, h1, h12, h13]
      


theorem l137_7 (a i : Nat) {H : Heap} {d : Array Int} : ∀ (j : Nat) (σ : Sig), σ 0 = .sl id 0 len lo ex 1 → σ 1 = .int .i64 (a : Nat) → σ 10 = .int .i64 (i : Nat) → σ 11 = .int .i64 (j : Nat) → id < H.next → H.obj id = .cells (tB.arr d) none → a < len → j < len → 1 ≤ i → i < 2 ^ 41 → len ≤ d.size → d.size < 2 ^ 40 →
    (∀ σ', σ' 0 = .sl id 0 len lo ex 1 → σ' 1 = .int .i64 (a : Nat) → σ' 10 = .int .i64 (i : Nat) → σ' 11 = .int .i64 (Sort.scanDown (fun x => !ltB x d[a]!) d i j : Nat) → Res (ai (callI tab) s k .nrm σ' H) Q) →
    Res (li (callI tab) L137_7 (.inBlock 8 :: s) k σ H) Q := by
  intro j
  induction j with
  | zero =>
    intro σ h0 h1 h12 h13 hid hd ha hj hp hi hl hs hQ
    have e : Sort.scanDown (fun x => !ltB x d[a]!) d i 0 = 0 := rfl
    rw [e] at hQ
    obtain ⟨il, hil⟩ : ∃ x, x = Jtm.inLoop L137_7 := ⟨_, rfl⟩; rw [li_eq' il hil]
    simp -implicitDefEqProofs (disch := first | omega | with_unfolding_all exact eqR (Eq.refl _)) [nums, -getElem!_pos, -Int.natCast_add, -Int.natCast_mul, -Int.natCast_ediv, L137_7, S137_6, h0, h1, h12, h13, hd, call_135, loadB, storeB, storeB2]
    subst hil
    try simp -implicitDefEqProofs (disch := first | omega | with_unfolding_all exact eqR (Eq.refl _)) [nums, -getElem!_pos, -Int.natCast_add, -Int.natCast_mul, -Int.natCast_ediv]
    refine hQ _ ?_ ?_ ?_ ?_ <;> simp [h0, h1, h12, h13]
  | succ j ih =>
    intro σ h0 h1 h12 h13 hid hd ha hj hp hi hl hs hQ
    by_cases c1 : i ≤ j + 1
    · by_cases c2 : d[j + 1]! < d[a]!
      · have e : Sort.scanDown (fun x => !ltB x d[a]!) d i (j + 1) = j + 1 := by
          rw [Sort.scanDown, if_neg (by simp only [Bool.and_eq_true, decide_eq_true_eq, ltB, c2]; simp)]
        rw [e] at hQ
        obtain ⟨il, hil⟩ : ∃ x, x = Jtm.inLoop L137_7 := ⟨_, rfl⟩; rw [li_eq' il hil]
        simp -implicitDefEqProofs (disch := first | omega | with_unfolding_all exact eqR (Eq.refl _)) [nums, -getElem!_pos, -Int.natCast_add, -Int.natCast_mul, -Int.natCast_ediv, L137_7, S137_6, h0, h1, h12, h13, hd, call_135, loadB, storeB, storeB2]
        subst hil
        try simp -implicitDefEqProofs (disch := first | omega | with_unfolding_all exact eqR (Eq.refl _)) [nums, -getElem!_pos, -Int.natCast_add, -Int.natCast_mul, -Int.natCast_ediv]
        refine hQ _ ?_ ?_ ?_ ?_ <;> simp [h0, h1, h12, h13]
        
      · have e : Sort.scanDown (fun x => !ltB x d[a]!) d i (j + 1) = Sort.scanDown (fun x => !ltB x d[a]!) d i j := by
          rw [Sort.scanDown, if_pos (by simp only [Bool.and_eq_true, decide_eq_true_eq, ltB, c2]; simp; omega)]
        rw [e] at hQ
        obtain ⟨il, hil⟩ : ∃ x, x = Jtm.inLoop L137_7 := ⟨_, rfl⟩; rw [li_eq' il hil]
        simp -implicitDefEqProofs (disch := first | omega | with_unfolding_all exact eqR (Eq.refl _)) [nums, -getElem!_pos, -Int.natCast_add, -Int.natCast_mul, -Int.natCast_ediv, L137_7, S137_6, h0, h1, h12, h13, hd, call_135, loadB, storeB, storeB2]
        subst hil
        try simp -implicitDefEqProofs (disch := first | omega | with_unfolding_all exact eqR (Eq.refl _)) [nums, -getElem!_pos, -Int.natCast_add, -Int.natCast_mul, -Int.natCast_ediv]
        refine ih _ ?_ ?_ ?_ ?_ hid hd ha (by omega) hp hi hl hs hQ
        all_goals simp [h0, h1, h12, h13]
    · have e : Sort.scanDown (fun x => !ltB x d[a]!) d i (j + 1) = j + 1 := by
        rw [Sort.scanDown, if_neg (by simp only [Bool.and_eq_true, decide_eq_true_eq]; omega)]
      rw [e] at hQ
      obtain ⟨il, hil⟩ : ∃ x, x = Jtm.inLoop L137_7 := ⟨_, rfl⟩; rw [li_eq' il hil]
      simp -implicitDefEqProofs (disch := first | omega | with_unfolding_all exact eqR (Eq.refl _)) [nums, -getElem!_pos, -Int.natCast_add, -Int.natCast_mul, -Int.natCast_ediv, L137_7, S137_6, h0, h1, h12, h13, hd, call_135, loadB, storeB, storeB2]
      subst hil
      try simp -implicitDefEqProofs (disch := first | omega | with_unfolding_all exact eqR (Eq.refl _)) [nums, -getElem!_pos, -Int.natCast_add, -Int.natCast_mul, -Int.natCast_ediv]
      refine hQ _ ?_ ?_ ?_ ?_ <;> simp [h0, h1, h12, h13]


theorem l136_7 (a : Nat) : ∀ (m i j : Nat) (σ : Sig) (H : Heap) (d : Array Int), j + 1 - i ≤ m → σ 0 = .sl id 0 len lo ex 1 → σ 1 = .int .i64 (a : Nat) → σ 9 = .int .i64 (i : Nat) → σ 10 = .int .i64 (j : Nat) →
    id < H.next → H.obj id = .cells (tB.arr d) none → a < len → j < len → 1 ≤ i → i < 2 ^ 41 → len ≤ d.size → d.size < 2 ^ 40 →
    (∀ σ' H', σ' 0 = .sl id 0 len lo ex 1 → σ' 1 = .int .i64 (a : Nat) → σ' 9 = .int .i64 ((Sort.partEqLoop ltB a i j d).1 : Nat) → Wr H H' id (.cells (tB.arr (Sort.partEqLoop ltB a i j d).2) none) → Res (ai (callI tab) s k .nrm σ' H') Q) →
    Res (li (callI tab) L136_7 (.inBlock 0 :: s) k σ H) Q := by
  intro m
  induction m with
  | zero =>
    intro i j σ H d hm h0 h1 h11 h12 hid hd ha hj hp hi hl hs hQ
    have u1 := Sort.scanUp_ge (fun x => !ltB d[a]! x) d j i
    have u2 := Sort.scanDown_le (fun x => ltB d[a]! x) d (Sort.scanUp (fun x => !ltB d[a]! x) d j i) j
    have u3 : Sort.scanUp (fun x => !ltB d[a]! x) d j i < 2 ^ 41 := scanUp_bd _ _ hi (by omega)
    have e := Sort.partEqLoop_eq ltB a i j d
    rw [if_pos (by omega)] at e
    rw [e] at hQ
    obtain ⟨il, hil⟩ : ∃ x, x = Jtm.inLoop L136_7 := ⟨_, rfl⟩; rw [li_eq' il hil]
    simp -implicitDefEqProofs (disch := first | omega | with_unfolding_all exact eqR (Eq.refl _)) [nums, -getElem!_pos, -Int.natCast_add, -Int.natCast_mul, -Int.natCast_ediv, L136_7]
    refine l136_1 (len := len) (lo := lo) (ex := ex) a j _ i σ rfl h0 h1 h11 h12 hid hd ha hj hp hi hl hs fun σ1 q0 q1 qi qj => ?_
    simp -implicitDefEqProofs (disch := first | omega | with_unfolding_all exact eqR (Eq.refl _)) [nums, -getElem!_pos, -Int.natCast_add, -Int.natCast_mul, -Int.natCast_ediv, S136_6]
    refine l136_3 (len := len) (lo := lo) (ex := ex) a _ j σ1 q0 q1 qi qj hid hd ha hj (by omega) u3 hl hs fun σ2 r0 r1 ri rj => ?_
    simp -implicitDefEqProofs (disch := first | omega | with_unfolding_all exact eqR (Eq.refl _)) [nums, -getElem!_pos, -Int.natCast_add, -Int.natCast_mul, -Int.natCast_ediv, S136_5, r0, r1, ri, rj]
    subst hil
    try simp -implicitDefEqProofs (disch := first | omega | with_unfolding_all exact eqR (Eq.refl _)) [nums, -getElem!_pos, -Int.natCast_add, -Int.natCast_mul, -Int.natCast_ediv]
    refine hQ _ _ ?_ ?_ ?_ (.refl hid hd)
    all_goals simp [r0, r1, ri, rj]
  | succ m ih =>
    intro i j σ H d hm h0 h1 h11 h12 hid hd ha hj hp hi hl hs hQ
    have u1 := Sort.scanUp_ge (fun x => !ltB d[a]! x) d j i
    have u2 := Sort.scanDown_le (fun x => ltB d[a]! x) d (Sort.scanUp (fun x => !ltB d[a]! x) d j i) j
    have u3 : Sort.scanUp (fun x => !ltB d[a]! x) d j i < 2 ^ 41 := scanUp_bd _ _ hi (by omega)
    have e := Sort.partEqLoop_eq ltB a i j d
    rw [e] at hQ
    obtain ⟨il, hil⟩ : ∃ x, x = Jtm.inLoop L136_7 := ⟨_, rfl⟩; rw [li_eq' il hil]
    simp -implicitDefEqProofs (disch := first | omega | with_unfolding_all exact eqR (Eq.refl _)) [nums, -getElem!_pos, -Int.natCast_add, -Int.natCast_mul, -Int.natCast_ediv, L136_7]
    refine l136_1 (len := len) (lo := lo) (ex := ex) a j _ i σ rfl h0 h1 h11 h12 hid hd ha hj hp hi hl hs fun σ1 q0 q1 qi qj => ?_
    simp -implicitDefEqProofs (disch := first | omega | with_unfolding_all exact eqR (Eq.refl _)) [nums, -getElem!_pos, -Int.natCast_add, -Int.natCast_mul, -Int.natCast_ediv, S136_6]
    refine l136_3 (len := len) (lo := lo) (ex := ex) a _ j σ1 q0 q1 qi qj hid hd ha hj (by omega) u3 hl hs fun σ2 r0 r1 ri rj => ?_
    clear e qi qj
    generalize hi2 : Sort.scanUp (fun x => !ltB d[a]! x) d j i = i2 at *
    generalize hj2 : Sort.scanDown (fun x => ltB d[a]! x) d i2 j = j2 at *
    by_cases c1 : i2 > j2
    · rw [if_pos c1] at hQ
      simp -implicitDefEqProofs (disch := first | omega | with_unfolding_all exact eqR (Eq.refl _)) [nums, -getElem!_pos, -Int.natCast_add, -Int.natCast_mul, -Int.natCast_ediv, S136_5, r0, r1, ri, rj]
      subst hil
      try simp -implicitDefEqProofs (disch := first | omega | with_unfolding_all exact eqR (Eq.refl _)) [nums, -getElem!_pos, -Int.natCast_add, -Int.natCast_mul, -Int.natCast_ediv]
      refine hQ _ _ ?_ ?_ ?_ (.refl hid hd)
      all_goals simp [r0, r1, ri, rj]
    · rw [if_neg c1] at hQ
      simp -implicitDefEqProofs (disch := first | omega | with_unfolding_all exact eqR (Eq.refl _)) [nums, -getElem!_pos, -Int.natCast_add, -Int.natCast_mul, -Int.natCast_ediv, S136_5, S136_4, r0, r1, ri, rj, hd, loadB, storeB, storeB2]
      subst hil
      try simp -implicitDefEqProofs (disch := first | omega | with_unfolding_all exact eqR (Eq.refl _)) [nums, -getElem!_pos, -Int.natCast_add, -Int.natCast_mul, -Int.natCast_ediv]
      refine ih (i2 + 1) (j2 - 1) _ _ (Sort.swp d i2 j2) (by omega) ?_ ?_ ?_ ?_ (by exact hid) ?_ ha (by omega) (by omega) (by omega) (by rw [swp_size]; exact hl) (by rw [swp_size]; exact hs) fun σ' H' q0 q1 qr hw => hQ σ' H' q0 q1 qr (.trans (.trans (.set hid) (.set hid)) hw)
      all_goals simp [r0, r1, ri, rj, Sort.swp]


theorem l137_11 (a : Nat) : ∀ (m i j : Nat) (σ : Sig) (H : Heap) (d : Array Int), j + 1 - i ≤ m → σ 0 = .sl id 0 len lo ex 1 → σ 1 = .int .i64 (a : Nat) → σ 10 = .int .i64 (i : Nat) → σ 11 = .int .i64 (j : Nat) →
    id < H.next → H.obj id = .cells (tB.arr d) none → a < len → j < len → 1 ≤ i → i < 2 ^ 41 → len ≤ d.size → d.size < 2 ^ 40 →
    (∀ σ' H', σ' 0 = .sl id 0 len lo ex 1 → σ' 1 = .int .i64 (a : Nat) → σ' 11 = .int .i64 ((Sort.partLoop ltB a i j d).1 : Nat) → Wr H H' id (.cells (tB.arr (Sort.partLoop ltB a i j d).2) none) → Res (ai (callI tab) s k .nrm σ' H') Q) →
    Res (li (callI tab) L137_11 (.inBlock 4 :: s) k σ H) Q := by
  intro m
  induction m with
  | zero =>
    intro i j σ H d hm h0 h1 h12 h13 hid hd ha hj hp hi hl hs hQ
    have u1 := Sort.scanUp_ge (fun x => ltB x d[a]!) d j i
    have u2 := Sort.scanDown_le (fun x => !ltB x d[a]!) d (Sort.scanUp (fun x => ltB x d[a]!) d j i) j
    have u3 : Sort.scanUp (fun x => ltB x d[a]!) d j i < 2 ^ 41 := scanUp_bd _ _ hi (by omega)
    have e := Sort.partLoop_eq ltB a i j d
    rw [if_pos (by omega)] at e
    rw [e] at hQ
    obtain ⟨il, hil⟩ : ∃ x, x = Jtm.inLoop L137_11 := ⟨_, rfl⟩; rw [li_eq' il hil]
    simp -implicitDefEqProofs (disch := first | omega | with_unfolding_all exact eqR (Eq.refl _)) [nums, -getElem!_pos, -Int.natCast_add, -Int.natCast_mul, -Int.natCast_ediv, L137_11]
    refine l137_5 (len := len) (lo := lo) (ex := ex) a j _ i σ rfl h0 h1 h12 h13 hid hd ha hj hp hi hl hs fun σ1 q0 q1 qi qj => ?_
    simp -implicitDefEqProofs (disch := first | omega | with_unfolding_all exact eqR (Eq.refl _)) [nums, -getElem!_pos, -Int.natCast_add, -Int.natCast_mul, -Int.natCast_ediv, S137_10]
    refine l137_7 (len := len) (lo := lo) (ex := ex) a _ j σ1 q0 q1 qi qj hid hd ha hj (by omega) u3 hl hs fun σ2 r0 r1 ri rj => ?_
    simp -implicitDefEqProofs (disch := first | omega | with_unfolding_all exact eqR (Eq.refl _)) [nums, -getElem!_pos, -Int.natCast_add, -Int.natCast_mul, -Int.natCast_ediv, S137_9, r0, r1, ri, rj]
    subst hil
    try simp -implicitDefEqProofs (disch := first | omega | with_unfolding_all exact eqR (Eq.refl _)) [nums, -getElem!_pos, -Int.natCast_add, -Int.natCast_mul, -Int.natCast_ediv]
    refine hQ _ _ ?_ ?_ ?_ (.refl hid hd)
    all_goals simp [r0, r1, ri, rj]
  | succ m ih =>
    intro i j σ H d hm h0 h1 h12 h13 hid hd ha hj hp hi hl hs hQ
    have u1 := Sort.scanUp_ge (fun x => ltB x d[a]!) d j i
    have u2 := Sort.scanDown_le (fun x => !ltB x d[a]!) d (Sort.scanUp (fun x => ltB x d[a]!) d j i) j
    have u3 : Sort.scanUp (fun x => ltB x d[a]!) d j i < 2 ^ 41 := scanUp_bd _ _ hi (by omega)
    have e := Sort.partLoop_eq ltB a i j d
    rw [e] at hQ
    obtain ⟨il, hil⟩ : ∃ x, x = Jtm.inLoop L137_11 := ⟨_, rfl⟩; rw [li_eq' il hil]
    simp -implicitDefEqProofs (disch := first | omega | with_unfolding_all exact eqR (Eq.refl _)) [nums, -getElem!_pos, -Int.natCast_add, -Int.natCast_mul, -Int.natCast_ediv, L137_11]
    refine l137_5 (len := len) (lo := lo) (ex := ex) a j _ i σ rfl h0 h1 h12 h13 hid hd ha hj hp hi hl hs fun σ1 q0 q1 qi qj => ?_
    simp -implicitDefEqProofs (disch := first | omega | with_unfolding_all exact eqR (Eq.refl _)) [nums, -getElem!_pos, -Int.natCast_add, -Int.natCast_mul, -Int.natCast_ediv, S137_10]
    refine l137_7 (len := len) (lo := lo) (ex := ex) a _ j σ1 q0 q1 qi qj hid hd ha hj (by omega) u3 hl hs fun σ2 r0 r1 ri rj => ?_
    clear e qi qj
    generalize hi2 : Sort.scanUp (fun x => ltB x d[a]!) d j i = i2 at *
    generalize hj2 : Sort.scanDown (fun x => !ltB x d[a]!) d i2 j = j2 at *
    by_cases c1 : i2 > j2
    · rw [if_pos c1] at hQ
      simp -implicitDefEqProofs (disch := first | omega | with_unfolding_all exact eqR (Eq.refl _)) [nums, -getElem!_pos, -Int.natCast_add, -Int.natCast_mul, -Int.natCast_ediv, S137_9, r0, r1, ri, rj]
      subst hil
      try simp -implicitDefEqProofs (disch := first | omega | with_unfolding_all exact eqR (Eq.refl _)) [nums, -getElem!_pos, -Int.natCast_add, -Int.natCast_mul, -Int.natCast_ediv]
      refine hQ _ _ ?_ ?_ ?_ (.refl hid hd)
      all_goals simp [r0, r1, ri, rj]
    · rw [if_neg c1] at hQ
      simp -implicitDefEqProofs (disch := first | omega | with_unfolding_all exact eqR (Eq.refl _)) [nums, -getElem!_pos, -Int.natCast_add, -Int.natCast_mul, -Int.natCast_ediv, S137_9, S137_8, r0, r1, ri, rj, hd, loadB, storeB, storeB2]
      subst hil
      try simp -implicitDefEqProofs (disch := first | omega | with_unfolding_all exact eqR (Eq.refl _)) [nums, -getElem!_pos, -Int.natCast_add, -Int.natCast_mul, -Int.natCast_ediv]
      refine ih (i2 + 1) (j2 - 1) _ _ (Sort.swp d i2 j2) (by omega) ?_ ?_ ?_ ?_ (by exact hid) ?_ ha (by omega) (by omega) (by omega) (by rw [swp_size]; exact hl) (by rw [swp_size]; exact hs) fun σ' H' q0 q1 qr hw => hQ σ' H' q0 q1 qr (.trans (.trans (.set hid) (.set hid)) hw)
      all_goals simp [r0, r1, ri, rj, Sort.swp]


theorem call_136 {a b p : Nat} {H : Heap} {d : Array Int} (hid : id < H.next) (hd : H.obj id = (.cells (tB.arr d) none)) (hb : b ≤ len) (ha : a < b) (hp : p < b) (hl : len ≤ d.size) (hs : d.size < 2 ^ 40) :
    Res (callI tab 136 [.sl id 0 len lo ex 1, .int .i64 a, .int .i64 b, .int .i64 p] H) fun v H' => v = .int .i64 ((Sort.partitionEqual ltB d a b p).1 : Nat) ∧ Wr H H' id (.cells (tB.arr (Sort.partitionEqual ltB d a b p).2) none) := by
  refine .hide fun Q hQ => .enter tab_136 (by simp [AF136]) (.inl rfl) ?_
  have hid' : id < H.begin.next := hid
  simp -implicitDefEqProofs (disch := first | omega | with_unfolding_all exact eqR (Eq.refl _)) [nums, -getElem!_pos, -Int.natCast_add, -Int.natCast_mul, -Int.natCast_ediv, AF136, hd, loadB, storeB, storeB2]
  refine l136_7 (len := len) (lo := lo) (ex := ex) a _ (a + 1) (b - 1) _ _ (Sort.swp d a p) (Nat.le_refl _) ?_ ?_ ?_ ?_ (by exact hid) ?_ (by omega) (by omega) (by omega) (by omega) (by rw [swp_size]; exact hl) (by rw [swp_size]; exact hs) fun σ' H' q0 q1 qr hw => ?_
  any_goals (first | (simp [Sort.swp]; done) | skip)
  simp -implicitDefEqProofs (disch := first | omega | with_unfolding_all exact eqR (Eq.refl _)) [nums, -getElem!_pos, -Int.natCast_add, -Int.natCast_mul, -Int.natCast_ediv, S136_8, qr]
  obtain ⟨H2, e, w⟩ := (Wr.trans (.trans (.set hid') (.set hid')) hw).toFx.wrapA (H := H) (v := .int .i64 _) rfl
  rw [e]
  exact .mk (hQ _ _ ⟨rfl, w⟩)


theorem call_137 {a b p : Nat} {H : Heap} {d : Array Int} (hid : id < H.next) (hd : H.obj id = (.cells (tB.arr d) none)) (hb : b ≤ len) (ha : a < b) (hp : p < b) (hl : len ≤ d.size) (hs : d.size < 2 ^ 40) :
    Res (callI tab 137 [.sl id 0 len lo ex 1, .int .i64 a, .int .i64 b, .int .i64 p] H) fun v H' => v = .tup [.int .i64 ((Sort.partition ltB d a b p).1 : Nat), .bool (Sort.partition ltB d a b p).2.1] ∧ Wr H H' id (.cells (tB.arr (Sort.partition ltB d a b p).2.2) none) := by
  refine .hide fun Q hQ => .enter tab_137 (by simp [AF137]) (.inl rfl) ?_
  have hid' : id < H.begin.next := hid
  have u1 := Sort.scanUp_ge (fun x => ltB x (Sort.swp d a p)[a]!) (Sort.swp d a p) (b - 1) (a + 1)
  have u2 := Sort.scanDown_le (fun x => !ltB x (Sort.swp d a p)[a]!) (Sort.swp d a p) (Sort.scanUp (fun x => ltB x (Sort.swp d a p)[a]!) (Sort.swp d a p) (b - 1) (a + 1)) (b - 1)
  have u3 : Sort.scanUp (fun x => ltB x (Sort.swp d a p)[a]!) (Sort.swp d a p) (b - 1) (a + 1) < 2 ^ 41 := scanUp_bd _ _ (by omega) (by omega)
  have e : Sort.partition ltB d a b p = if Sort.scanUp (fun x => ltB x (Sort.swp d a p)[a]!) (Sort.swp d a p) (b - 1) (a + 1) > Sort.scanDown (fun x => !ltB x (Sort.swp d a p)[a]!) (Sort.swp d a p) (Sort.scanUp (fun x => ltB x (Sort.swp d a p)[a]!) (Sort.swp d a p) (b - 1) (a + 1)) (b - 1) then (Sort.scanDown (fun x => !ltB x (Sort.swp d a p)[a]!) (Sort.swp d a p) (Sort.scanUp (fun x => ltB x (Sort.swp d a p)[a]!) (Sort.swp d a p) (b - 1) (a + 1)) (b - 1), true, Sort.swp (Sort.swp d a p) (Sort.scanDown (fun x => !ltB x (Sort.swp d a p)[a]!) (Sort.swp d a p) (Sort.scanUp (fun x => ltB x (Sort.swp d a p)[a]!) (Sort.swp d a p) (b - 1) (a + 1)) (b - 1)) a) else
    ((Sort.partLoop ltB a (Sort.scanUp (fun x => ltB x (Sort.swp d a p)[a]!) (Sort.swp d a p) (b - 1) (a + 1) + 1) (Sort.scanDown (fun x => !ltB x (Sort.swp d a p)[a]!) (Sort.swp d a p) (Sort.scanUp (fun x => ltB x (Sort.swp d a p)[a]!) (Sort.swp d a p) (b - 1) (a + 1)) (b - 1) - 1) (Sort.swp (Sort.swp d a p) (Sort.scanUp (fun x => ltB x (Sort.swp d a p)[a]!) (Sort.swp d a p) (b - 1) (a + 1)) (Sort.scanDown (fun x => !ltB x (Sort.swp d a p)[a]!) (Sort.swp d a p) (Sort.scanUp (fun x => ltB x (Sort.swp d a p)[a]!) (Sort.swp d a p) (b - 1) (a + 1)) (b - 1)))).1, false,
      Sort.swp (Sort.partLoop ltB a (Sort.scanUp (fun x => ltB x (Sort.swp d a p)[a]!) (Sort.swp d a p) (b - 1) (a + 1) + 1) (Sort.scanDown (fun x => !ltB x (Sort.swp d a p)[a]!) (Sort.swp d a p) (Sort.scanUp (fun x => ltB x (Sort.swp d a p)[a]!) (Sort.swp d a p) (b - 1) (a + 1)) (b - 1) - 1) (Sort.swp (Sort.swp d a p) (Sort.scanUp (fun x => ltB x (Sort.swp d a p)[a]!) (Sort.swp d a p) (b - 1) (a + 1)) (Sort.scanDown (fun x => !ltB x (Sort.swp d a p)[a]!) (Sort.swp d a p) (Sort.scanUp (fun x => ltB x (Sort.swp d a p)[a]!) (Sort.swp d a p) (b - 1) (a + 1)) (b - 1)))).2 (Sort.partLoop ltB a (Sort.scanUp (fun x => ltB x (Sort.swp d a p)[a]!) (Sort.swp d a p) (b - 1) (a + 1) + 1) (Sort.scanDown (fun x => !ltB x (Sort.swp d a p)[a]!) (Sort.swp d a p) (Sort.scanUp (fun x => ltB x (Sort.swp d a p)[a]!) (Sort.swp d a p) (b - 1) (a + 1)) (b - 1) - 1) (Sort.swp (Sort.swp d a p) (Sort.scanUp (fun x => ltB x (Sort.swp d a p)[a]!) (Sort.swp d a p) (b - 1) (a + 1)) (Sort.scanDown (fun x => !ltB x (Sort.swp d a p)[a]!) (Sort.swp d a p) (Sort.scanUp (fun x => ltB x (Sort.swp d a p)[a]!) (Sort.swp d a p) (b - 1) (a + 1)) (b - 1)))).1 a) := rfl
  rw [e] at hQ
  clear e
  simp -implicitDefEqProofs (disch := first | omega | with_unfolding_all exact eqR (Eq.refl _)) [nums, -getElem!_pos, -Int.natCast_add, -Int.natCast_mul, -Int.natCast_ediv, AF137, hd, loadB, storeB, storeB2]
  refine l137_1 (len := len) (lo := lo) (ex := ex) a (b - 1) (d := (Sort.swp d a p)) _ (a + 1) _ rfl ?_ ?_ ?_ ?_ (by exact hid) ?_ (by omega) (by omega) (by omega) (by omega) (by rw [swp_size]; exact hl) (by rw [swp_size]; exact hs) fun σ1 q0 q1 qi qj => ?_
  any_goals (first | (simp [Sort.swp]; done) | skip)
  simp -implicitDefEqProofs (disch := first | omega | with_unfolding_all exact eqR (Eq.refl _)) [nums, -getElem!_pos, -Int.natCast_add, -Int.natCast_mul, -Int.natCast_ediv, S137_15]
  refine l137_3 (len := len) (lo := lo) (ex := ex) a _ (d := (Sort.swp d a p)) (b - 1) σ1 q0 q1 qi qj (by exact hid) (by simp [Sort.swp]) (by omega) (by omega) (by omega) u3 (by rw [swp_size]; exact hl) (by rw [swp_size]; exact hs) fun σ2 r0 r1 ri rj => ?_
  clear qi qj
  generalize hi2 : Sort.scanUp (fun x => ltB x (Sort.swp d a p)[a]!) (Sort.swp d a p) (b - 1) (a + 1) = i2 at *
  generalize hj2 : Sort.scanDown (fun x => !ltB x (Sort.swp d a p)[a]!) (Sort.swp d a p) i2 (b - 1) = j2 at *
  have sz : (Sort.swp d a p).size = d.size := swp_size _ _ _
  generalize hd1 : (Sort.swp d a p) = d1 at *
  have hd1' : ((H.begin.set id (AObj.cells (tB.arr (d.setIfInBounds a d[p]!)) none)).set id (AObj.cells (tB.arr ((d.setIfInBounds a d[p]!).setIfInBounds p d[a]!)) none)).obj id = .cells (tB.arr d1) none := by rw [← hd1]; simp [Sort.swp]
  have w1 : Wr H.begin ((H.begin.set id (AObj.cells (tB.arr (d.setIfInBounds a d[p]!)) none)).set id (AObj.cells (tB.arr ((d.setIfInBounds a d[p]!).setIfInBounds p d[a]!)) none)) id (.cells (tB.arr d1) none) := by rw [← hd1]; exact .trans (.set hid') (.set hid')
  generalize hH1 : (H.begin.set id (AObj.cells (tB.arr (d.setIfInBounds a d[p]!)) none)).set id (AObj.cells (tB.arr ((d.setIfInBounds a d[p]!).setIfInBounds p d[a]!)) none) = H1 at *
  have hid1 : id < H1.next := by rw [w1.nxt]; exact hid
  by_cases c1 : i2 > j2
  · rw [if_pos c1] at hQ
    simp -implicitDefEqProofs (disch := first | omega | with_unfolding_all exact eqR (Eq.refl _)) [nums, -getElem!_pos, -Int.natCast_add, -Int.natCast_mul, -Int.natCast_ediv, S137_14, r0, r1, ri, rj, hd1', loadB, storeB, storeB2]
    obtain ⟨H2, e, w⟩ := (w1.trans (Wr.trans (o2 := .cells (tB.arr (Sort.swp d1 j2 a)) none) (.set hid1) (.set hid1))).toFx.wrapA (H := H) (v := .tup [.int .i64 j2, .bool true]) rfl
    simp only [Sort.swp] at e
    rw [e]
    exact .mk (hQ _ _ ⟨rfl, w⟩)
  · rw [if_neg c1] at hQ
    simp -implicitDefEqProofs (disch := first | omega | with_unfolding_all exact eqR (Eq.refl _)) [nums, -getElem!_pos, -Int.natCast_add, -Int.natCast_mul, -Int.natCast_ediv, S137_14, S137_13, r0, r1, ri, rj, hd1', loadB, storeB, storeB2]
    have pz := partLoop_size ltB a _ (i2 + 1) (j2 - 1) (Sort.swp d1 i2 j2) (Nat.le_refl _)
    rw [swp_size] at pz
    refine l137_11 (len := len) (lo := lo) (ex := ex) a _ (i2 + 1) (j2 - 1) _ _ (Sort.swp d1 i2 j2) (Nat.le_refl _) ?_ ?_ ?_ ?_ (by exact hid1) ?_ (by omega) (by omega) (by omega) (by omega) (by rw [swp_size]; omega) (by rw [swp_size]; omega) fun σ3 H3 t0 t1 tr hw => ?_
    any_goals (first | (simp [r0, r1, ri, rj, Sort.swp]; done) | skip)
    generalize hR : Sort.partLoop ltB a (i2 + 1) (j2 - 1) (Sort.swp d1 i2 j2) = R at *
    have hd3 := hw.at
    have hid3 : id < H3.next := by rw [hw.nxt]; exact hid1
    have w3 : Wr H.begin H3 id (.cells (tB.arr R.2) none) := w1.trans (.trans (.trans (.set hid1) (.set hid1)) hw)
    simp -implicitDefEqProofs (disch := first | omega | with_unfolding_all exact eqR (Eq.refl _)) [nums, -getElem!_pos, -Int.natCast_add, -Int.natCast_mul, -Int.natCast_ediv, S137_12, t0, t1, tr, hd3, loadB, storeB, storeB2]
    obtain ⟨H2, e, w⟩ := (w3.trans (Wr.trans (o2 := .cells (tB.arr (Sort.swp R.2 R.1 a)) none) (.set hid3) (.set hid3))).toFx.wrapA (H := H) (v := .tup [.int .i64 R.1, .bool false]) rfl
    simp only [Sort.swp] at e
    rw [e]
    exact .mk (hQ _ _ ⟨rfl, w⟩)

end
end Go.Mach.Ytl
