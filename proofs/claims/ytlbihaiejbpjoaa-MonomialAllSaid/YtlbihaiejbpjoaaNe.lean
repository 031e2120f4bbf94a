/-
  Sorting by a heap, and turning a row around. By an AI agent.
-/
import Derived.Test.YtlbihaiejbpjoaaNd
set_option linter.unusedSimpArgs false
set_option linter.unusedVariables false
set_option maxRecDepth 100000
namespace Go.Mach.Ytl
open Go.Mach

section
variable {g id len lo : Nat} {ex : Bool} {c : Mo → Mo → Int} {s : List Jtm} {k : KF} {Q : AV → Heap → Prop}
theorem swp_size {α : Type} [Inhabited α] (d : Array α) (i j : Nat) : (Sort.swp d i j).size = d.size := by simp [Sort.swp]
theorem siftDown_size {α : Type} [Inhabited α] (lt : α → α → Bool) (hi first : Nat) (m : Nat) : ∀ root (d : Array α), hi - root ≤ m → (Sort.siftDown lt hi first root d).size = d.size := by
  induction m with
  | zero => intro root d h; rw [Sort.siftDown, dif_pos (by omega)]
  | succ m ih =>
    intro root d h
    rw [Sort.siftDown]
    repeat' split
    all_goals first | rfl | (rw [ih _ _ (by omega), swp_size])
theorem heapBuild_size {α : Type} [Inhabited α] (lt : α → α → Bool) (hi first k : Nat) (d : Array α) : (Sort.heapBuild lt hi first k d).size = d.size := by
  induction k generalizing d with
  | zero => rfl
  | succ k ih => rw [Sort.heapBuild, ih, siftDown_size lt hi first _ _ _ (Nat.le_refl _)]
theorem heapPop_size {α : Type} [Inhabited α] (lt : α → α → Bool) (first k : Nat) (d : Array α) : (Sort.heapPop lt first k d).size = d.size := by
  induction k generalizing d with
  | zero => rfl
  | succ k ih => rw [Sort.heapPop, ih, siftDown_size lt k first _ _ _ (Nat.le_refl _), swp_size]
theorem reverseLoop_size {α : Type} [Inhabited α] (m : Nat) : ∀ i j (d : Array α), j - i ≤ m → (Sort.reverseLoop i j d).size = d.size := by
  induction m with
  | zero => intro i j d h; rw [Sort.reverseLoop, if_neg (by omega)]
  | succ m ih =>
    intro i j d h
    rw [Sort.reverseLoop]
    split
    · rw [ih _ _ _ (by omega), swp_size]
    · rfl


theorem l124_3 (hc : CmpM g c) (hi first : Nat) (H0 : Heap) : ∀ (m root : Nat) (σ : Sig) (H : Heap) (d : Array Mo), hi - root ≤ m → σ 0 = .sl id 0 len lo ex 8 → σ 2 = .int .i64 (hi : Nat) → σ 3 = .int .i64 (first : Nat) → σ 4 = .fn g [] [] → σ 10 = .int .i64 (root : Nat) →
    id < H.next → H.obj id = .cells (tM.arr d) none → first + hi ≤ len → root < 2 ^ 40 → len ≤ d.size → d.size < 2 ^ 40 →
    (∀ H', Wr H H' id (.cells (tM.arr (Sort.siftDown (ltc c) hi first root d)) none) → Res (some (wrapA H0 (.tup []) H')) Q) →
    Res (li (callI tab) L124_3 [.inBlock 0] (fink [] false H0) σ H) Q := by
  intro m
  induction m with
  | zero =>
    intro root σ H d hm h0 h2 h3 h4 h10 hid hd hb hr hl hs hQ
    have e : Sort.siftDown (ltc c) hi first root d = d := by rw [Sort.siftDown, dif_pos (by omega)]
    rw [e] at hQ
    obtain ⟨il, hil⟩ : ∃ x, x = Jtm.inLoop L124_3 := ⟨_, rfl⟩; rw [li_eq' il hil]
    simp -implicitDefEqProofs (disch := first | omega | with_unfolding_all exact eqR (Eq.refl _)) [nums, -getElem!_pos, -Int.natCast_add, -Int.natCast_mul, -Int.natCast_ediv, L124_3, S124_0, S124_1, S124_2, h0, h2, h3, h4, h10, hd]
    subst hil
    try simp -implicitDefEqProofs (disch := first | omega | with_unfolding_all exact eqR (Eq.refl _)) [nums, -getElem!_pos, -Int.natCast_add, -Int.natCast_mul, -Int.natCast_ediv]
    exact hQ _ (.refl hid hd)
  | succ m ih =>
    intro root σ H d hm h0 h2 h3 h4 h10 hid hd hb hr hl hs hQ
    by_cases c1 : hi ≤ 2 * root + 1
    · have e : Sort.siftDown (ltc c) hi first root d = d := by rw [Sort.siftDown, dif_pos (by omega)]
      rw [e] at hQ
      obtain ⟨il, hil⟩ : ∃ x, x = Jtm.inLoop L124_3 := ⟨_, rfl⟩; rw [li_eq' il hil]
      simp -implicitDefEqProofs (disch := first | omega | with_unfolding_all exact eqR (Eq.refl _)) [nums, -getElem!_pos, -Int.natCast_add, -Int.natCast_mul, -Int.natCast_ediv, L124_3, S124_0, S124_1, S124_2, h0, h2, h3, h4, h10, hd]
      subst hil
      try simp -implicitDefEqProofs (disch := first | omega | with_unfolding_all exact eqR (Eq.refl _)) [nums, -getElem!_pos, -Int.natCast_add, -Int.natCast_mul, -Int.natCast_ediv]
      exact hQ _ (.refl hid hd)
    · by_cases c2 : 2 * root + 2 < hi
      · by_cases c3 : c d[first + (2 * root + 1)]! d[first + (2 * root + 1) + 1]! < 0
        · by_cases c4 : c d[first + root]! d[first + (2 * root + 1 + 1)]! < 0
          · have e : Sort.siftDown (ltc c) hi first root d = Sort.siftDown (ltc c) hi first (2 * root + 2) (Sort.swp d (first + root) (first + (2 * root + 2))) := by
              rw [Sort.siftDown, dif_neg (by omega), if_pos (by simp only [Bool.and_eq_true, decide_eq_true_eq, ltc]; exact ⟨by omega, c3⟩), if_neg (by simpa [ltc] using c4), dif_pos c2]
            rw [e] at hQ
            obtain ⟨il, hil⟩ : ∃ x, x = Jtm.inLoop L124_3 := ⟨_, rfl⟩; rw [li_eq' il hil]
            simp -implicitDefEqProofs (disch := first | omega | with_unfolding_all exact eqR (Eq.refl _)) [nums, -getElem!_pos, -Int.natCast_add, -Int.natCast_mul, -Int.natCast_ediv, L124_3, S124_0, S124_1, S124_2, h0, h2, h3, h4, h10, hd, hc _ _, loadM, storeM, storeM2]
            subst hil
            try simp -implicitDefEqProofs (disch := first | omega | with_unfolding_all exact eqR (Eq.refl _)) [nums, -getElem!_pos, -Int.natCast_add, -Int.natCast_mul, -Int.natCast_ediv]
            refine ih (2 * root + 2) _ _ (Sort.swp d (first + root) (first + (2 * root + 2))) (by omega) ?_ ?_ ?_ ?_ ?_ (by exact hid) ?_ hb (by omega) (by rw [swp_size]; exact hl) (by rw [swp_size]; exact hs) fun H' hw => hQ H' (.trans (.trans (.set hid) (.set hid)) hw)
            all_goals (first | (simp [h0, h2, h3, h4, h10, Sort.swp]; done) | (simp [h0, h2, h3, h4, h10, Sort.swp]; omega))
          · have e : Sort.siftDown (ltc c) hi first root d = d := by
              rw [Sort.siftDown, dif_neg (by omega), if_pos (by simp only [Bool.and_eq_true, decide_eq_true_eq, ltc]; exact ⟨by omega, c3⟩), if_pos (by simpa [ltc] using c4)]
            rw [e] at hQ
            obtain ⟨il, hil⟩ : ∃ x, x = Jtm.inLoop L124_3 := ⟨_, rfl⟩; rw [li_eq' il hil]
            simp -implicitDefEqProofs (disch := first | omega | with_unfolding_all exact eqR (Eq.refl _)) [nums, -getElem!_pos, -Int.natCast_add, -Int.natCast_mul, -Int.natCast_ediv, L124_3, S124_0, S124_1, S124_2, h0, h2, h3, h4, h10, hd, hc _ _, loadM, storeM, storeM2]
            subst hil
            try simp -implicitDefEqProofs (disch := first | omega | with_unfolding_all exact eqR (Eq.refl _)) [nums, -getElem!_pos, -Int.natCast_add, -Int.natCast_mul, -Int.natCast_ediv]
            exact hQ _ (.refl hid hd)
        · by_cases c4 : c d[first + root]! d[first + (2 * root + 1)]! < 0
          · have e : Sort.siftDown (ltc c) hi first root d = Sort.siftDown (ltc c) hi first (2 * root + 1) (Sort.swp d (first + root) (first + (2 * root + 1))) := by
              rw [Sort.siftDown, dif_neg (by omega), if_neg (by simp only [Bool.and_eq_true, decide_eq_true_eq, ltc]; exact fun x => c3 x.2), if_neg (by simpa [ltc] using c4)]
            rw [e] at hQ
            obtain ⟨il, hil⟩ : ∃ x, x = Jtm.inLoop L124_3 := ⟨_, rfl⟩; rw [li_eq' il hil]
            simp -implicitDefEqProofs (disch := first | omega | with_unfolding_all exact eqR (Eq.refl _)) [nums, -getElem!_pos, -Int.natCast_add, -Int.natCast_mul, -Int.natCast_ediv, L124_3, S124_0, S124_1, S124_2, h0, h2, h3, h4, h10, hd, hc _ _, loadM, storeM, storeM2]
            subst hil
            try simp -implicitDefEqProofs (disch := first | omega | with_unfolding_all exact eqR (Eq.refl _)) [nums, -getElem!_pos, -Int.natCast_add, -Int.natCast_mul, -Int.natCast_ediv]
            refine ih (2 * root + 1) _ _ (Sort.swp d (first + root) (first + (2 * root + 1))) (by omega) ?_ ?_ ?_ ?_ ?_ (by exact hid) ?_ hb (by omega) (by rw [swp_size]; exact hl) (by rw [swp_size]; exact hs) fun H' hw => hQ H' (.trans (.trans (.set hid) (.set hid)) hw)
            all_goals (first | (simp [h0, h2, h3, h4, h10, Sort.swp]; done) | (simp [h0, h2, h3, h4, h10, Sort.swp]; omega))
          · have e : Sort.siftDown (ltc c) hi first root d = d := by
              rw [Sort.siftDown, dif_neg (by omega), if_neg (by simp only [Bool.and_eq_true, decide_eq_true_eq, ltc]; exact fun x => c3 x.2), if_pos (by simpa [ltc] using c4)]
            rw [e] at hQ
            obtain ⟨il, hil⟩ : ∃ x, x = Jtm.inLoop L124_3 := ⟨_, rfl⟩; rw [li_eq' il hil]
            simp -implicitDefEqProofs (disch := first | omega | with_unfolding_all exact eqR (Eq.refl _)) [nums, -getElem!_pos, -Int.natCast_add, -Int.natCast_mul, -Int.natCast_ediv, L124_3, S124_0, S124_1, S124_2, h0, h2, h3, h4, h10, hd, hc _ _, loadM, storeM, storeM2]
            subst hil
            try simp -implicitDefEqProofs (disch := first | omega | with_unfolding_all exact eqR (Eq.refl _)) [nums, -getElem!_pos, -Int.natCast_add, -Int.natCast_mul, -Int.natCast_ediv]
            exact hQ _ (.refl hid hd)
      · by_cases c4 : c d[first + root]! d[first + (2 * root + 1)]! < 0
        · have e : Sort.siftDown (ltc c) hi first root d = Sort.siftDown (ltc c) hi first (2 * root + 1) (Sort.swp d (first + root) (first + (2 * root + 1))) := by
            rw [Sort.siftDown, dif_neg (by omega), if_neg (by simp only [Bool.and_eq_true, decide_eq_true_eq]; omega), if_neg (by simpa [ltc] using c4)]
          rw [e] at hQ
          obtain ⟨il, hil⟩ : ∃ x, x = Jtm.inLoop L124_3 := ⟨_, rfl⟩; rw [li_eq' il hil]
          simp -implicitDefEqProofs (disch := first | omega | with_unfolding_all exact eqR (Eq.refl _)) [nums, -getElem!_pos, -Int.natCast_add, -Int.natCast_mul, -Int.natCast_ediv, L124_3, S124_0, S124_1, S124_2, h0, h2, h3, h4, h10, hd, hc _ _, loadM, storeM, storeM2]
          subst hil
          try simp -implicitDefEqProofs (disch := first | omega | with_unfolding_all exact eqR (Eq.refl _)) [nums, -getElem!_pos, -Int.natCast_add, -Int.natCast_mul, -Int.natCast_ediv]
          refine ih (2 * root + 1) _ _ (Sort.swp d (first + root) (first + (2 * root + 1))) (by omega) ?_ ?_ ?_ ?_ ?_ (by exact hid) ?_ hb (by omega) (by rw [swp_size]; exact hl) (by rw [swp_size]; exact hs) fun H' hw => hQ H' (.trans (.trans (.set hid) (.set hid)) hw)
          all_goals (first | (simp [h0, h2, h3, h4, h10, Sort.swp]; done) | (simp [h0, h2, h3, h4, h10, Sort.swp]; omega))
        · have e : Sort.siftDown (ltc c) hi first root d = d := by
            rw [Sort.siftDown, dif_neg (by omega), if_neg (by simp only [Bool.and_eq_true, decide_eq_true_eq]; omega), if_pos (by simpa [ltc] using c4)]
          rw [e] at hQ
          obtain ⟨il, hil⟩ : ∃ x, x = Jtm.inLoop L124_3 := ⟨_, rfl⟩; rw [li_eq' il hil]
          simp -implicitDefEqProofs (disch := first | omega | with_unfolding_all exact eqR (Eq.refl _)) [nums, -getElem!_pos, -Int.natCast_add, -Int.natCast_mul, -Int.natCast_ediv, L124_3, S124_0, S124_1, S124_2, h0, h2, h3, h4, h10, hd, hc _ _, loadM, storeM, storeM2]
          subst hil
          try simp -implicitDefEqProofs (disch := first | omega | with_unfolding_all exact eqR (Eq.refl _)) [nums, -getElem!_pos, -Int.natCast_add, -Int.natCast_mul, -Int.natCast_ediv]
          exact hQ _ (.refl hid hd)

theorem call_124 (hc : CmpM g c) {lw hi first : Nat} {H : Heap} {d : Array Mo} (hid : id < H.next) (hd : H.obj id = .cells (tM.arr d) none) (hb : first + hi ≤ len) (hr : lw < 2 ^ 40) (hl : len ≤ d.size) (hs : d.size < 2 ^ 40) :
    Res (callI tab 124 [.sl id 0 len lo ex 8, .int .i64 lw, .int .i64 hi, .int .i64 first, .fn g [] []] H) fun e H' => e = .tup [] ∧ Wr H H' id (.cells (tM.arr (Sort.siftDown (ltc c) hi first lw d)) none) := by
  refine .enter tab_124 (by simp [AF124]) (.inl rfl) ?_
  simp -implicitDefEqProofs (disch := first | omega | with_unfolding_all exact eqR (Eq.refl _)) [nums, -getElem!_pos, -Int.natCast_add, -Int.natCast_mul, -Int.natCast_ediv, AF124]
  refine l124_3 (len := len) (lo := lo) (ex := ex) hc hi first H _ lw _ _ d (Nat.le_refl _) ?_ ?_ ?_ ?_ ?_ hid hd hb hr hl hs fun H' hw => ?_
  any_goals (first | (simp; done) | skip)
  obtain ⟨H2, e, w⟩ := hw.toFx.wrapA (H := H) (v := .tup []) rfl
  rw [e]
  exact .mk ⟨rfl, w⟩


theorem l110_1 (hc : CmpM g c) (a hi : Nat) : ∀ (j : Nat) (σ : Sig) (H : Heap) (d : Array Mo), σ 0 = .sl id 0 len lo ex 8 → σ 3 = .fn g [] [] → σ 8 = .int .i64 (a : Nat) → σ 10 = .int .i64 (hi : Nat) → σ 11 = .int .i64 (pr j) →
    id < H.next → H.obj id = .cells (tM.arr d) none → a + hi ≤ len → j < 2 ^ 40 → len ≤ d.size → d.size < 2 ^ 40 →
    (∀ σ' H', σ' 0 = .sl id 0 len lo ex 8 → σ' 3 = .fn g [] [] → σ' 8 = .int .i64 (a : Nat) → σ' 10 = .int .i64 (hi : Nat) → σ' 9 = σ 9 → Wr H H' id (.cells (tM.arr (Sort.heapBuild (ltc c) hi a j d)) none) → Res (ai (callI tab) s k .nrm σ' H') Q) →
    Res (li (callI tab) L110_1 (.inBlock 0 :: s) k σ H) Q := by
  intro j
  induction j with
  | zero =>
    intro σ H d h0 h3 h8 h10 h11 hid hd hb hr hl hs hQ
    rw [pr_zero] at h11
    obtain ⟨il, hil⟩ : ∃ x, x = Jtm.inLoop L110_1 := ⟨_, rfl⟩; rw [li_eq' il hil]
    simp -implicitDefEqProofs (disch := first | omega | with_unfolding_all exact eqR (Eq.refl _)) [nums, -getElem!_pos, -Int.natCast_add, -Int.natCast_mul, -Int.natCast_ediv, L110_1, S110_0, h0, h3, h8, h10, h11, hd]
    subst hil
    try simp -implicitDefEqProofs (disch := first | omega | with_unfolding_all exact eqR (Eq.refl _)) [nums, -getElem!_pos, -Int.natCast_add, -Int.natCast_mul, -Int.natCast_ediv]
    refine hQ _ _ ?_ ?_ ?_ ?_ ?_ (.refl hid hd) <;> simp [h0, h3, h8, h10, h11]
  | succ j ih =>
    intro σ H d h0 h3 h8 h10 h11 hid hd hb hr hl hs hQ
    rw [pr_succ] at h11
    obtain ⟨il, hil⟩ : ∃ x, x = Jtm.inLoop L110_1 := ⟨_, rfl⟩; rw [li_eq' il hil]
    simp -implicitDefEqProofs (disch := first | omega | with_unfolding_all exact eqR (Eq.refl _)) [nums, -getElem!_pos, -Int.natCast_add, -Int.natCast_mul, -Int.natCast_ediv, L110_1, S110_0, h0, h3, h8, h10, h11, hd]
    refine .call (call_124 (len := len) (lo := lo) (ex := ex) hc hid hd hb (by omega) hl hs) fun e H2 ⟨he, hw⟩ => ?_
    subst he
    simp -implicitDefEqProofs (disch := first | omega | with_unfolding_all exact eqR (Eq.refl _)) [nums, -getElem!_pos, -Int.natCast_add, -Int.natCast_mul, -Int.natCast_ediv, wrap_pr, h0, h3, h8, h10, h11]
    subst hil
    try simp -implicitDefEqProofs (disch := first | omega | with_unfolding_all exact eqR (Eq.refl _)) [nums, -getElem!_pos, -Int.natCast_add, -Int.natCast_mul, -Int.natCast_ediv]
    refine ih _ _ _ ?_ ?_ ?_ ?_ ?_ (by rw [hw.nxt]; exact hid) hw.at hb (by omega) (by rw [siftDown_size _ _ _ _ _ _ (Nat.le_refl _)]; exact hl) (by rw [siftDown_size _ _ _ _ _ _ (Nat.le_refl _)]; exact hs) fun σ' H' q0 q3 q8 q10 q9 hw' => hQ σ' H' q0 q3 q8 q10 (by rw [q9]; simp) (hw.trans hw')
    all_goals simp [h0, h3, h8, h10, h11]


theorem l110_3 (hc : CmpM g c) (a : Nat) : ∀ (j : Nat) (σ : Sig) (H : Heap) (d : Array Mo), σ 0 = .sl id 0 len lo ex 8 → σ 3 = .fn g [] [] → σ 8 = .int .i64 (a : Nat) → σ 9 = .int .i64 0 → σ 12 = .int .i64 (pr j) →
    id < H.next → H.obj id = .cells (tM.arr d) none → a + j ≤ len → len ≤ d.size → d.size < 2 ^ 40 →
    (∀ σ' H', Wr H H' id (.cells (tM.arr (Sort.heapPop (ltc c) a j d)) none) → Res (ai (callI tab) s k .nrm σ' H') Q) →
    Res (li (callI tab) L110_3 (.inBlock 2 :: s) k σ H) Q := by
  intro j
  induction j with
  | zero =>
    intro σ H d h0 h3 h8 h9 h12 hid hd hb hl hs hQ
    rw [pr_zero] at h12
    obtain ⟨il, hil⟩ : ∃ x, x = Jtm.inLoop L110_3 := ⟨_, rfl⟩; rw [li_eq' il hil]
    simp -implicitDefEqProofs (disch := first | omega | with_unfolding_all exact eqR (Eq.refl _)) [nums, -getElem!_pos, -Int.natCast_add, -Int.natCast_mul, -Int.natCast_ediv, L110_3, S110_2, h0, h3, h8, h9, h12, hd]
    subst hil
    try simp -implicitDefEqProofs (disch := first | omega | with_unfolding_all exact eqR (Eq.refl _)) [nums, -getElem!_pos, -Int.natCast_add, -Int.natCast_mul, -Int.natCast_ediv]
    exact hQ _ _ (.refl hid hd)
  | succ j ih =>
    intro σ H d h0 h3 h8 h9 h12 hid hd hb hl hs hQ
    rw [pr_succ] at h12
    obtain ⟨il, hil⟩ : ∃ x, x = Jtm.inLoop L110_3 := ⟨_, rfl⟩; rw [li_eq' il hil]
    simp -implicitDefEqProofs (disch := first | omega | with_unfolding_all exact eqR (Eq.refl _)) [nums, -getElem!_pos, -Int.natCast_add, -Int.natCast_mul, -Int.natCast_ediv, L110_3, S110_2, h0, h3, h8, h9, h12, hd, loadM, storeM, storeM2]
    refine .call (call_124 (H := (H.set _ _).set _ _) (lw := 0) (hi := j) (first := a) (len := len) (lo := lo) (ex := ex) (d := Sort.swp d a (a + j)) hc hid (by simp [Sort.swp]) (by omega) (by omega) (by rw [swp_size]; exact hl) (by rw [swp_size]; exact hs)) fun e H2 ⟨he, hw⟩ => ?_
    subst he
    simp -implicitDefEqProofs (disch := first | omega | with_unfolding_all exact eqR (Eq.refl _)) [nums, -getElem!_pos, -Int.natCast_add, -Int.natCast_mul, -Int.natCast_ediv, wrap_pr, h0, h3, h8, h9, h12]
    subst hil
    try simp -implicitDefEqProofs (disch := first | omega | with_unfolding_all exact eqR (Eq.refl _)) [nums, -getElem!_pos, -Int.natCast_add, -Int.natCast_mul, -Int.natCast_ediv]
    refine ih _ _ _ ?_ ?_ ?_ ?_ ?_ (by rw [hw.nxt]; exact hid) hw.at (by omega) (by rw [siftDown_size _ _ _ _ _ _ (Nat.le_refl _), swp_size]; exact hl) (by rw [siftDown_size _ _ _ _ _ _ (Nat.le_refl _), swp_size]; exact hs) fun σ' H' hw' => hQ σ' H' ((Wr.trans (.trans (.set hid) (.set hid)) hw).trans hw')
    all_goals simp [h0, h3, h8, h9, h12]

theorem call_110 (hc : CmpM g c) {a b : Nat} {H : Heap} {d : Array Mo} (hid : id < H.next) (hd : H.obj id = .cells (tM.arr d) none) (hb : b ≤ len) (ha : a < b) (hl : len ≤ d.size) (hs : d.size < 2 ^ 40) :
    Res (callI tab 110 [.sl id 0 len lo ex 8, .int .i64 a, .int .i64 b, .fn g [] []] H) fun e H' => e = .tup [] ∧ Wr H H' id (.cells (tM.arr (Sort.heapSort (ltc c) d a b)) none) := by
  refine .enter tab_110 (by simp [AF110]) (.inl rfl) ?_
  simp -implicitDefEqProofs (disch := first | omega | with_unfolding_all exact eqR (Eq.refl _)) [nums, -getElem!_pos, -Int.natCast_add, -Int.natCast_mul, -Int.natCast_ediv, AF110]
  refine l110_1 (len := len) (lo := lo) (ex := ex) hc a (b - a) ((b - a - 1) / 2 + 1) _ _ d ?_ ?_ ?_ ?_ ?_ hid hd (by omega) (by omega) hl hs fun σ' H' q0 q3 q8 q10 q9 hw => ?_
  any_goals (first | (simp [pr_succ]; done) | skip)
  have q9' : σ' 9 = .int .i64 0 := by rw [q9]; simp
  simp -implicitDefEqProofs (disch := first | omega | with_unfolding_all exact eqR (Eq.refl _)) [nums, -getElem!_pos, -Int.natCast_add, -Int.natCast_mul, -Int.natCast_ediv, S110_4, q0, q3, q8, q10]
  refine l110_3 (len := len) (lo := lo) (ex := ex) hc a (b - a) _ _ _ ?_ ?_ ?_ ?_ ?_ (by rw [hw.nxt]; exact hid) hw.at (by omega) (by rw [heapBuild_size]; exact hl) (by rw [heapBuild_size]; exact hs) fun σ'' H'' hw' => ?_
  any_goals (first | (simp [q0, q3, q8, q10, q9', pr]; done) | (simp [q0, q3, q8, q10, q9', pr]; omega) | skip)
  simp -implicitDefEqProofs (disch := first | omega | with_unfolding_all exact eqR (Eq.refl _)) [nums, -getElem!_pos, -Int.natCast_add, -Int.natCast_mul, -Int.natCast_ediv]
  obtain ⟨H2, e, w⟩ := (hw.trans hw').toFx.wrapA (H := H) (v := .tup []) rfl
  rw [e]
  exact .mk ⟨rfl, w⟩


theorem l113_1 : ∀ (m i j : Nat) (σ : Sig) (H : Heap) (d : Array Mo), j - i ≤ m → σ 0 = .sl id 0 len lo ex 8 → σ 8 = .int .i64 (i : Nat) → σ 9 = .int .i64 (j : Nat) →
    id < H.next → H.obj id = .cells (tM.arr d) none → j < len → i < 2 ^ 40 → len ≤ d.size → d.size < 2 ^ 40 →
    (∀ σ' H', Wr H H' id (.cells (tM.arr (Sort.reverseLoop i j d)) none) → Res (ai (callI tab) s k .nrm σ' H') Q) →
    Res (li (callI tab) L113_1 (.inBlock 0 :: s) k σ H) Q := by
  intro m
  induction m with
  | zero =>
    intro i j σ H d hm h0 h8 h9 hid hd hb hi hl hs hQ
    have e : Sort.reverseLoop i j d = d := by rw [Sort.reverseLoop, if_neg (by omega)]
    rw [e] at hQ
    obtain ⟨il, hil⟩ : ∃ x, x = Jtm.inLoop L113_1 := ⟨_, rfl⟩; rw [li_eq' il hil]
    simp -implicitDefEqProofs (disch := first | omega | with_unfolding_all exact eqR (Eq.refl _)) [nums, -getElem!_pos, -Int.natCast_add, -Int.natCast_mul, -Int.natCast_ediv, L113_1, S113_0, h0, h8, h9, hd]
    subst hil
    try simp -implicitDefEqProofs (disch := first | omega | with_unfolding_all exact eqR (Eq.refl _)) [nums, -getElem!_pos, -Int.natCast_add, -Int.natCast_mul, -Int.natCast_ediv]
    exact hQ _ _ (.refl hid hd)
  | succ m ih =>
    intro i j σ H d hm h0 h8 h9 hid hd hb hi hl hs hQ
    by_cases h : i < j
    · have e : Sort.reverseLoop i j d = Sort.reverseLoop (i + 1) (j - 1) (Sort.swp d i j) := by rw [Sort.reverseLoop, if_pos h]
      rw [e] at hQ
      obtain ⟨il, hil⟩ : ∃ x, x = Jtm.inLoop L113_1 := ⟨_, rfl⟩; rw [li_eq' il hil]
      simp -implicitDefEqProofs (disch := first | omega | with_unfolding_all exact eqR (Eq.refl _)) [nums, -getElem!_pos, -Int.natCast_add, -Int.natCast_mul, -Int.natCast_ediv, L113_1, S113_0, h0, h8, h9, hd, loadM, storeM, storeM2]
      subst hil
      try simp -implicitDefEqProofs (disch := first | omega | with_unfolding_all exact eqR (Eq.refl _)) [nums, -getElem!_pos, -Int.natCast_add, -Int.natCast_mul, -Int.natCast_ediv]
      refine ih (i + 1) (j - 1) _ _ (Sort.swp d i j) (by omega) ?_ ?_ ?_ (by exact hid) ?_ (by omega) (by omega) (by rw [swp_size]; exact hl) (by rw [swp_size]; exact hs) fun σ' H' hw => hQ σ' H' (.trans (.trans (.set hid) (.set hid)) hw)
      all_goals (first | (simp [h0, h8, h9, Sort.swp]; done) | (simp [h0, h8, h9, Sort.swp]; omega))
    · have e : Sort.reverseLoop i j d = d := by rw [Sort.reverseLoop, if_neg h]
      rw [e] at hQ
      obtain ⟨il, hil⟩ : ∃ x, x = Jtm.inLoop L113_1 := ⟨_, rfl⟩; rw [li_eq' il hil]
      simp -implicitDefEqProofs (disch := first | omega | with_unfolding_all exact eqR (Eq.refl _)) [nums, -getElem!_pos, -Int.natCast_add, -Int.natCast_mul, -Int.natCast_ediv, L113_1, S113_0, h0, h8, h9, hd]
      subst hil
      try simp -implicitDefEqProofs (disch := first | omega | with_unfolding_all exact eqR (Eq.refl _)) [nums, -getElem!_pos, -Int.natCast_add, -Int.natCast_mul, -Int.natCast_ediv]
      exact hQ _ _ (.refl hid hd)

theorem call_113 {a b : Nat} {cv : AV} {H : Heap} {d : Array Mo} (hid : id < H.next) (hd : H.obj id = .cells (tM.arr d) none) (hb : b ≤ len) (ha : a < b) (hl : len ≤ d.size) (hs : d.size < 2 ^ 40) :
    Res (callI tab 113 [.sl id 0 len lo ex 8, .int .i64 a, .int .i64 b, cv] H) fun e H' => e = .tup [] ∧ Wr H H' id (.cells (tM.arr (Sort.reverseRange d a b)) none) := by
  refine .enter tab_113 (by simp [AF113]) (.inl rfl) ?_
  simp -implicitDefEqProofs (disch := first | omega | with_unfolding_all exact eqR (Eq.refl _)) [nums, -getElem!_pos, -Int.natCast_add, -Int.natCast_mul, -Int.natCast_ediv, AF113]
  refine l113_1 (len := len) (lo := lo) (ex := ex) _ a (b - 1) _ _ d (Nat.le_refl _) ?_ ?_ ?_ hid hd (by omega) (by omega) hl hs fun σ' H' hw => ?_
  any_goals (first | (simp; done) | skip)
  simp -implicitDefEqProofs (disch := first | omega | with_unfolding_all exact eqR (Eq.refl _)) [nums, -getElem!_pos, -Int.natCast_add, -Int.natCast_mul, -Int.natCast_ediv]
  obtain ⟨H2, e, w⟩ := hw.toFx.wrapA (H := H) (v := .tup []) rfl
  rw [e]
  exact .mk ⟨rfl, w⟩


theorem l139_3 (hi first : Nat) (H0 : Heap) : ∀ (m root : Nat) (σ : Sig) (H : Heap) (d : Array Int), hi - root ≤ m → σ 0 = .sl id 0 len lo ex 1 → σ 2 = .int .i64 (hi : Nat) → σ 3 = .int .i64 (first : Nat) → σ 8 = .int .i64 (root : Nat) →
    id < H.next → H.obj id = .cells (tB.arr d) none → first + hi ≤ len → root < 2 ^ 40 → len ≤ d.size → d.size < 2 ^ 40 →
    (∀ H', Wr H H' id (.cells (tB.arr (Sort.siftDown ltB hi first root d)) none) → Res (some (wrapA H0 (.tup []) H')) Q) →
    Res (li (callI tab) L139_3 [.inBlock 0] (fink [] false H0) σ H) Q := by
  intro m
  induction m with
  | zero =>
    intro root σ H d hm h0 h2 h3 h10 hid hd hb hr hl hs hQ
    have e : Sort.siftDown ltB hi first root d = d := by rw [Sort.siftDown, dif_pos (by omega)]
    rw [e] at hQ
    obtain ⟨il, hil⟩ : ∃ x, x = Jtm.inLoop L139_3 := ⟨_, rfl⟩; rw [li_eq' il hil]
    simp -implicitDefEqProofs (disch := first | omega | with_unfolding_all exact eqR (Eq.refl _)) [nums, -getElem!_pos, -Int.natCast_add, -Int.natCast_mul, -Int.natCast_ediv, L139_3, S139_0, S139_1, S139_2, h0, h2, h3, h10, hd]
    subst hil
    try simp -implicitDefEqProofs (disch := first | omega | with_unfolding_all exact eqR (Eq.refl _)) [nums, -getElem!_pos, -Int.natCast_add, -Int.natCast_mul, -Int.natCast_ediv]
    exact hQ _ (.refl hid hd)
  | succ m ih =>
    intro root σ H d hm h0 h2 h3 h10 hid hd hb hr hl hs hQ
    by_cases c1 : hi ≤ 2 * root + 1
    · have e : Sort.siftDown ltB hi first root d = d := by rw [Sort.siftDown, dif_pos (by omega)]
      rw [e] at hQ
      obtain ⟨il, hil⟩ : ∃ x, x = Jtm.inLoop L139_3 := ⟨_, rfl⟩; rw [li_eq' il hil]
      simp -implicitDefEqProofs (disch := first | omega | with_unfolding_all exact eqR (Eq.refl _)) [nums, -getElem!_pos, -Int.natCast_add, -Int.natCast_mul, -Int.natCast_ediv, L139_3, S139_0, S139_1, S139_2, h0, h2, h3, h10, hd]
      subst hil
      try simp -implicitDefEqProofs (disch := first | omega | with_unfolding_all exact eqR (Eq.refl _)) [nums, -getElem!_pos, -Int.natCast_add, -Int.natCast_mul, -Int.natCast_ediv]
      exact hQ _ (.refl hid hd)
    · by_cases c2 : 2 * root + 2 < hi
      · by_cases c3 : d[first + (2 * root + 1)]! < d[first + (2 * root + 1) + 1]!
        · by_cases c4 : d[first + root]! < d[first + (2 * root + 1 + 1)]!
          · have e : Sort.siftDown ltB hi first root d = Sort.siftDown ltB hi first (2 * root + 2) (Sort.swp d (first + root) (first + (2 * root + 2))) := by
              rw [Sort.siftDown, dif_neg (by omega), if_pos (by simp only [Bool.and_eq_true, decide_eq_true_eq, ltB]; exact ⟨by omega, c3⟩), if_neg (by simpa [ltB] using c4), dif_pos c2]
            rw [e] at hQ
            obtain ⟨il, hil⟩ : ∃ x, x = Jtm.inLoop L139_3 := ⟨_, rfl⟩; rw [li_eq' il hil]
            simp -implicitDefEqProofs (disch := first | omega | with_unfolding_all exact eqR (Eq.refl _)) [nums, -getElem!_pos, -Int.natCast_add, -Int.natCast_mul, -Int.natCast_ediv, L139_3, S139_0, S139_1, S139_2, h0, h2, h3, h10, hd, call_135, loadB, storeB, storeB2]
            subst hil
            try simp -implicitDefEqProofs (disch := first | omega | with_unfolding_all exact eqR (Eq.refl _)) [nums, -getElem!_pos, -Int.natCast_add, -Int.natCast_mul, -Int.natCast_ediv]
            refine ih (2 * root + 2) _ _ (Sort.swp d (first + root) (first + (2 * root + 2))) (by omega) ?_ ?_ ?_ ?_ (by exact hid) ?_ hb (by omega) (by rw [swp_size]; exact hl) (by rw [swp_size]; exact hs) fun H' hw => hQ H' (.trans (.trans (.set hid) (.set hid)) hw)
            all_goals (first | (simp [h0, h2, h3, h10, Sort.swp]; done) | (simp [h0, h2, h3, h10, Sort.swp]; omega))
          · have e : Sort.siftDown ltB hi first root d = d := by
              rw [Sort.siftDown, dif_neg (by omega), if_pos (by simp only [Bool.and_eq_true, decide_eq_true_eq, ltB]; exact ⟨by omega, c3⟩), if_pos (by simpa [ltB] using c4)]
            rw [e] at hQ
            obtain ⟨il, hil⟩ : ∃ x, x = Jtm.inLoop L139_3 := ⟨_, rfl⟩; rw [li_eq' il hil]
            simp -implicitDefEqProofs (disch := first | omega | with_unfolding_all exact eqR (Eq.refl _)) [nums, -getElem!_pos, -Int.natCast_add, -Int.natCast_mul, -Int.natCast_ediv, L139_3, S139_0, S139_1, S139_2, h0, h2, h3, h10, hd, call_135, loadB, storeB, storeB2]
            subst hil
            try simp -implicitDefEqProofs (disch := first | omega | with_unfolding_all exact eqR (Eq.refl _)) [nums, -getElem!_pos, -Int.natCast_add, -Int.natCast_mul, -Int.natCast_ediv]
            exact hQ _ (.refl hid hd)
        · by_cases c4 : d[first + root]! < d[first + (2 * root + 1)]!
          · have e : Sort.siftDown ltB hi first root d = Sort.siftDown ltB hi first (2 * root + 1) (Sort.swp d (first + root) (first + (2 * root + 1))) := by
              rw [Sort.siftDown, dif_neg (by omega), if_neg (by simp only [Bool.and_eq_true, decide_eq_true_eq, ltB]; exact fun x => c3 x.2), if_neg (by simpa [ltB] using c4)]
            rw [e] at hQ
            obtain ⟨il, hil⟩ : ∃ x, x = Jtm.inLoop L139_3 := ⟨_, rfl⟩; rw [li_eq' il hil]
            simp -implicitDefEqProofs (disch := first | omega | with_unfolding_all exact eqR (Eq.refl _)) [nums, -getElem!_pos, -Int.natCast_add, -Int.natCast_mul, -Int.natCast_ediv, L139_3, S139_0, S139_1, S139_2, h0, h2, h3, h10, hd, call_135, loadB, storeB, storeB2]
            subst hil
            try simp -implicitDefEqProofs (disch := first | omega | with_unfolding_all exact eqR (Eq.refl _)) [nums, -getElem!_pos, -Int.natCast_add, -Int.natCast_mul, -Int.natCast_ediv]
            refine ih (2 * root + 1) _ _ (Sort.swp d (first + root) (first + (2 * root + 1))) (by omega) ?_ ?_ ?_ ?_ (by exact hid) ?_ hb (by omega) (by rw [swp_size]; exact hl) (by rw [swp_size]; exact hs) fun H' hw => hQ H' (.trans (.trans (.set hid) (.set hid)) hw)
            all_goals (first | (simp [h0, h2, h3, h10, Sort.swp]; done) | (simp [h0, h2, h3, h10, Sort.swp]; omega))
          · have e : Sort.siftDown ltB hi first root d = d := by
              rw [Sort.siftDown, dif_neg (by omega), if_neg (by simp only [Bool.and_eq_true, decide_eq_true_eq, ltB]; exact fun x => c3 x.2), if_pos (by simpa [ltB] using c4)]
            rw [e] at hQ
            obtain ⟨il, hil⟩ : ∃ x, x = Jtm.inLoop L139_3 := ⟨_, rfl⟩; rw [li_eq' il hil]
            simp -implicitDefEqProofs (disch := first | omega | with_unfolding_all exact eqR (Eq.refl _)) [nums, -getElem!_pos, -Int.natCast_add, -Int.natCast_mul, -Int.natCast_ediv, L139_3, S139_0, S139_1, S139_2, h0, h2, h3, h10, hd, call_135, loadB, storeB, storeB2]
            subst hil
            try simp -implicitDefEqProofs (disch := first | omega | with_unfolding_all exact eqR (Eq.refl _)) [nums, -getElem!_pos, -Int.natCast_add, -Int.natCast_mul, -Int.natCast_ediv]
            exact hQ _ (.refl hid hd)
      · by_cases c4 : d[first + root]! < d[first + (2 * root + 1)]!
        · have e : Sort.siftDown ltB hi first root d = Sort.siftDown ltB hi first (2 * root + 1) (Sort.swp d (first + root) (first + (2 * root + 1))) := by
            rw [Sort.siftDown, dif_neg (by omega), if_neg (by simp only [Bool.and_eq_true, decide_eq_true_eq]; omega), if_neg (by simpa [ltB] using c4)]
          rw [e] at hQ
          obtain ⟨il, hil⟩ : ∃ x, x = Jtm.inLoop L139_3 := ⟨_, rfl⟩; rw [li_eq' il hil]
          simp -implicitDefEqProofs (disch := first | omega | with_unfolding_all exact eqR (Eq.refl _)) [nums, -getElem!_pos, -Int.natCast_add, -Int.natCast_mul, -Int.natCast_ediv, L139_3, S139_0, S139_1, S139_2, h0, h2, h3, h10, hd, call_135, loadB, storeB, storeB2]
          subst hil
          try simp -implicitDefEqProofs (disch := first | omega | with_unfolding_all exact eqR (Eq.refl _)) [nums, -getElem!_pos, -Int.natCast_add, -Int.natCast_mul, -Int.natCast_ediv]
          refine ih (2 * root + 1) _ _ (Sort.swp d (first + root) (first + (2 * root + 1))) (by omega) ?_ ?_ ?_ ?_ (by exact hid) ?_ hb (by omega) (by rw [swp_size]; exact hl) (by rw [swp_size]; exact hs) fun H' hw => hQ H' (.trans (.trans (.set hid) (.set hid)) hw)
          all_goals (first | (simp [h0, h2, h3, h10, Sort.swp]; done) | (simp [h0, h2, h3, h10, Sort.swp]; omega))
        · have e : Sort.siftDown ltB hi first root d = d := by
            rw [Sort.siftDown, dif_neg (by omega), if_neg (by simp only [Bool.and_eq_true, decide_eq_true_eq]; omega), if_pos (by simpa [ltB] using c4)]
          rw [e] at hQ
          obtain ⟨il, hil⟩ : ∃ x, x = Jtm.inLoop L139_3 := ⟨_, rfl⟩; rw [li_eq' il hil]
          simp -implicitDefEqProofs (disch := first | omega | with_unfolding_all exact eqR (Eq.refl _)) [nums, -getElem!_pos, -Int.natCast_add, -Int.natCast_mul, -Int.natCast_ediv, L139_3, S139_0, S139_1, S139_2, h0, h2, h3, h10, hd, call_135, loadB, storeB, storeB2]
          subst hil
          try simp -implicitDefEqProofs (disch := first | omega | with_unfolding_all exact eqR (Eq.refl _)) [nums, -getElem!_pos, -Int.natCast_add, -Int.natCast_mul, -Int.natCast_ediv]
          exact hQ _ (.refl hid hd)

theorem call_139 {lw hi first : Nat} {H : Heap} {d : Array Int} (hid : id < H.next) (hd : H.obj id = .cells (tB.arr d) none) (hb : first + hi ≤ len) (hr : lw < 2 ^ 40) (hl : len ≤ d.size) (hs : d.size < 2 ^ 40) :
    Res (callI tab 139 [.sl id 0 len lo ex 1, .int .i64 lw, .int .i64 hi, .int .i64 first] H) fun e H' => e = .tup [] ∧ Wr H H' id (.cells (tB.arr (Sort.siftDown ltB hi first lw d)) none) := by
  refine .enter tab_139 (by simp [AF139]) (.inl rfl) ?_
  simp -implicitDefEqProofs (disch := first | omega | with_unfolding_all exact eqR (Eq.refl _)) [nums, -getElem!_pos, -Int.natCast_add, -Int.natCast_mul, -Int.natCast_ediv, AF139]
  refine l139_3 (len := len) (lo := lo) (ex := ex) hi first H _ lw _ _ d (Nat.le_refl _) ?_ ?_ ?_ ?_ hid hd hb hr hl hs fun H' hw => ?_
  any_goals (first | (simp; done) | skip)
  obtain ⟨H2, e, w⟩ := hw.toFx.wrapA (H := H) (v := .tup []) rfl
  rw [e]
  exact .mk ⟨rfl, w⟩


theorem l130_1 (a hi : Nat) : ∀ (j : Nat) (σ : Sig) (H : Heap) (d : Array Int), σ 0 = .sl id 0 len lo ex 1 → σ 6 = .int .i64 (a : Nat) → σ 8 = .int .i64 (hi : Nat) → σ 9 = .int .i64 (pr j) →
    id < H.next → H.obj id = .cells (tB.arr d) none → a + hi ≤ len → j < 2 ^ 40 → len ≤ d.size → d.size < 2 ^ 40 →
    (∀ σ' H', σ' 0 = .sl id 0 len lo ex 1 → σ' 6 = .int .i64 (a : Nat) → σ' 8 = .int .i64 (hi : Nat) → σ' 7 = σ 7 → Wr H H' id (.cells (tB.arr (Sort.heapBuild ltB hi a j d)) none) → Res (ai (callI tab) s k .nrm σ' H') Q) →
    Res (li (callI tab) L130_1 (.inBlock 0 :: s) k σ H) Q := by
  intro j
  induction j with
  | zero =>
    intro σ H d h0 h8 h10 h11 hid hd hb hr hl hs hQ
    rw [pr_zero] at h11
    obtain ⟨il, hil⟩ : ∃ x, x = Jtm.inLoop L130_1 := ⟨_, rfl⟩; rw [li_eq' il hil]
    simp -implicitDefEqProofs (disch := first | omega | with_unfolding_all exact eqR (Eq.refl _)) [nums, -getElem!_pos, -Int.natCast_add, -Int.natCast_mul, -Int.natCast_ediv, L130_1, S130_0, h0, h8, h10, h11, hd]
    subst hil
    try simp -implicitDefEqProofs (disch := first | omega | with_unfolding_all exact eqR (Eq.refl _)) [nums, -getElem!_pos, -Int.natCast_add, -Int.natCast_mul, -Int.natCast_ediv]
    refine hQ _ _ ?_ ?_ ?_ ?_ (.refl hid hd) <;> simp [h0, h8, h10, h11]
  | succ j ih =>
    intro σ H d h0 h8 h10 h11 hid hd hb hr hl hs hQ
    rw [pr_succ] at h11
    obtain ⟨il, hil⟩ : ∃ x, x = Jtm.inLoop L130_1 := ⟨_, rfl⟩; rw [li_eq' il hil]
    simp -implicitDefEqProofs (disch := first | omega | with_unfolding_all exact eqR (Eq.refl _)) [nums, -getElem!_pos, -Int.natCast_add, -Int.natCast_mul, -Int.natCast_ediv, L130_1, S130_0, h0, h8, h10, h11, hd]
    refine .call (call_139 (len := len) (lo := lo) (ex := ex) hid hd hb (by omega) hl hs) fun e H2 ⟨he, hw⟩ => ?_
    subst he
    simp -implicitDefEqProofs (disch := first | omega | with_unfolding_all exact eqR (Eq.refl _)) [nums, -getElem!_pos, -Int.natCast_add, -Int.natCast_mul, -Int.natCast_ediv, wrap_pr, h0, h8, h10, h11]
    subst hil
    try simp -implicitDefEqProofs (disch := first | omega | with_unfolding_all exact eqR (Eq.refl _)) [nums, -getElem!_pos, -Int.natCast_add, -Int.natCast_mul, -Int.natCast_ediv]
    refine ih _ _ _ ?_ ?_ ?_ ?_ (by rw [hw.nxt]; exact hid) hw.at hb (by omega) (by rw [siftDown_size _ _ _ _ _ _ (Nat.le_refl _)]; exact hl) (by rw [siftDown_size _ _ _ _ _ _ (Nat.le_refl _)]; exact hs) fun σ' H' q0 q8 q10 q9 hw' => hQ σ' H' q0 q8 q10 (by rw [q9]; simp) (hw.trans hw')
    all_goals simp [h0, h8, h10, h11]


theorem l130_3 (a : Nat) : ∀ (j : Nat) (σ : Sig) (H : Heap) (d : Array Int), σ 0 = .sl id 0 len lo ex 1 → σ 6 = .int .i64 (a : Nat) → σ 7 = .int .i64 0 → σ 10 = .int .i64 (pr j) →
    id < H.next → H.obj id = .cells (tB.arr d) none → a + j ≤ len → len ≤ d.size → d.size < 2 ^ 40 →
    (∀ σ' H', Wr H H' id (.cells (tB.arr (Sort.heapPop ltB a j d)) none) → Res (ai (callI tab) s k .nrm σ' H') Q) →
    Res (li (callI tab) L130_3 (.inBlock 2 :: s) k σ H) Q := by
  intro j
  induction j with
  | zero =>
    intro σ H d h0 h8 h9 h12 hid hd hb hl hs hQ
    rw [pr_zero] at h12
    obtain ⟨il, hil⟩ : ∃ x, x = Jtm.inLoop L130_3 := ⟨_, rfl⟩; rw [li_eq' il hil]
    simp -implicitDefEqProofs (disch := first | omega | with_unfolding_all exact eqR (Eq.refl _)) [nums, -getElem!_pos, -Int.natCast_add, -Int.natCast_mul, -Int.natCast_ediv, L130_3, S130_2, h0, h8, h9, h12, hd]
    subst hil
    try simp -implicitDefEqProofs (disch := first | omega | with_unfolding_all exact eqR (Eq.refl _)) [nums, -getElem!_pos, -Int.natCast_add, -Int.natCast_mul, -Int.natCast_ediv]
    exact hQ _ _ (.refl hid hd)
  | succ j ih =>
    intro σ H d h0 h8 h9 h12 hid hd hb hl hs hQ
    rw [pr_succ] at h12
    obtain ⟨il, hil⟩ : ∃ x, x = Jtm.inLoop L130_3 := ⟨_, rfl⟩; rw [li_eq' il hil]
    simp -implicitDefEqProofs (disch := first | omega | with_unfolding_all exact eqR (Eq.refl _)) [nums, -getElem!_pos, -Int.natCast_add, -Int.natCast_mul, -Int.natCast_ediv, L130_3, S130_2, h0, h8, h9, h12, hd, loadB, storeB, storeB2]
    refine .call (call_139 (H := (H.set _ _).set _ _) (lw := 0) (hi := j) (first := a) (len := len) (lo := lo) (ex := ex) (d := Sort.swp d a (a + j)) hid (by simp [Sort.swp]) (by omega) (by omega) (by rw [swp_size]; exact hl) (by rw [swp_size]; exact hs)) fun e H2 ⟨he, hw⟩ => ?_
    subst he
    simp -implicitDefEqProofs (disch := first | omega | with_unfolding_all exact eqR (Eq.refl _)) [nums, -getElem!_pos, -Int.natCast_add, -Int.natCast_mul, -Int.natCast_ediv, wrap_pr, h0, h8, h9, h12]
    subst hil
    try simp -implicitDefEqProofs (disch := first | omega | with_unfolding_all exact eqR (Eq.refl _)) [nums, -getElem!_pos, -Int.natCast_add, -Int.natCast_mul, -Int.natCast_ediv]
    refine ih _ _ _ ?_ ?_ ?_ ?_ (by rw [hw.nxt]; exact hid) hw.at (by omega) (by rw [siftDown_size _ _ _ _ _ _ (Nat.le_refl _), swp_size]; exact hl) (by rw [siftDown_size _ _ _ _ _ _ (Nat.le_refl _), swp_size]; exact hs) fun σ' H' hw' => hQ σ' H' ((Wr.trans (.trans (.set hid) (.set hid)) hw).trans hw')
    all_goals simp [h0, h8, h9, h12]

theorem call_130 {a b : Nat} {H : Heap} {d : Array Int} (hid : id < H.next) (hd : H.obj id = .cells (tB.arr d) none) (hb : b ≤ len) (ha : a < b) (hl : len ≤ d.size) (hs : d.size < 2 ^ 40) :
    Res (callI tab 130 [.sl id 0 len lo ex 1, .int .i64 a, .int .i64 b] H) fun e H' => e = .tup [] ∧ Wr H H' id (.cells (tB.arr (Sort.heapSort ltB d a b)) none) := by
  refine .enter tab_130 (by simp [AF130]) (.inl rfl) ?_
  simp -implicitDefEqProofs (disch := first | omega | with_unfolding_all exact eqR (Eq.refl _)) [nums, -getElem!_pos, -Int.natCast_add, -Int.natCast_mul, -Int.natCast_ediv, AF130]
  refine l130_1 (len := len) (lo := lo) (ex := ex) a (b - a) ((b - a - 1) / 2 + 1) _ _ d ?_ ?_ ?_ ?_ hid hd (by omega) (by omega) hl hs fun σ' H' q0 q8 q10 q9 hw => ?_
  any_goals (first | (simp [pr_succ]; done) | skip)
  have q9' : σ' 7 = .int .i64 0 := by rw [q9]; simp
  simp -implicitDefEqProofs (disch := first | omega | with_unfolding_all exact eqR (Eq.refl _)) [nums, -getElem!_pos, -Int.natCast_add, -Int.natCast_mul, -Int.natCast_ediv, S130_4, q0, q8, q10]
  refine l130_3 (len := len) (lo := lo) (ex := ex) a (b - a) _ _ _ ?_ ?_ ?_ ?_ (by rw [hw.nxt]; exact hid) hw.at (by omega) (by rw [heapBuild_size]; exact hl) (by rw [heapBuild_size]; exact hs) fun σ'' H'' hw' => ?_
  any_goals (first | (simp [q0, q8, q10, q9', pr]; done) | (simp [q0, q8, q10, q9', pr]; omega) | skip)
  simp -implicitDefEqProofs (disch := first | omega | with_unfolding_all exact eqR (Eq.refl _)) [nums, -getElem!_pos, -Int.natCast_add, -Int.natCast_mul, -Int.natCast_ediv]
  obtain ⟨H2, e, w⟩ := (hw.trans hw').toFx.wrapA (H := H) (v := .tup []) rfl
  rw [e]
  exact .mk ⟨rfl, w⟩


theorem l133_1 : ∀ (m i j : Nat) (σ : Sig) (H : Heap) (d : Array Int), j - i ≤ m → σ 0 = .sl id 0 len lo ex 1 → σ 6 = .int .i64 (i : Nat) → σ 7 = .int .i64 (j : Nat) →
    id < H.next → H.obj id = .cells (tB.arr d) none → j < len → i < 2 ^ 40 → len ≤ d.size → d.size < 2 ^ 40 →
    (∀ σ' H', Wr H H' id (.cells (tB.arr (Sort.reverseLoop i j d)) none) → Res (ai (callI tab) s k .nrm σ' H') Q) →
    Res (li (callI tab) L133_1 (.inBlock 0 :: s) k σ H) Q := by
  intro m
  induction m with
  | zero =>
    intro i j σ H d hm h0 h8 h9 hid hd hb hi hl hs hQ
    have e : Sort.reverseLoop i j d = d := by rw [Sort.reverseLoop, if_neg (by omega)]
    rw [e] at hQ
    obtain ⟨il, hil⟩ : ∃ x, x = Jtm.inLoop L133_1 := ⟨_, rfl⟩; rw [li_eq' il hil]
    simp -implicitDefEqProofs (disch := first | omega | with_unfolding_all exact eqR (Eq.refl _)) [nums, -getElem!_pos, -Int.natCast_add, -Int.natCast_mul, -Int.natCast_ediv, L133_1, S133_0, h0, h8, h9, hd]
    subst hil
    try simp -implicitDefEqProofs (disch := first | omega | with_unfolding_all exact eqR (Eq.refl _)) [nums, -getElem!_pos, -Int.natCast_add, -Int.natCast_mul, -Int.natCast_ediv]
    exact hQ _ _ (.refl hid hd)
  | succ m ih =>
    intro i j σ H d hm h0 h8 h9 hid hd hb hi hl hs hQ
    by_cases h : i < j
    · have e : Sort.reverseLoop i j d = Sort.reverseLoop (i + 1) (j - 1) (Sort.swp d i j) := by rw [Sort.reverseLoop, if_pos h]
      rw [e] at hQ
      obtain ⟨il, hil⟩ : ∃ x, x = Jtm.inLoop L133_1 := ⟨_, rfl⟩; rw [li_eq' il hil]
      simp -implicitDefEqProofs (disch := first | omega | with_unfolding_all exact eqR (Eq.refl _)) [nums, -getElem!_pos, -Int.natCast_add, -Int.natCast_mul, -Int.natCast_ediv, L133_1, S133_0, h0, h8, h9, hd, loadB, storeB, storeB2]
      subst hil
      try simp -implicitDefEqProofs (disch := first | omega | with_unfolding_all exact eqR (Eq.refl _)) [nums, -getElem!_pos, -Int.natCast_add, -Int.natCast_mul, -Int.natCast_ediv]
      refine ih (i + 1) (j - 1) _ _ (Sort.swp d i j) (by omega) ?_ ?_ ?_ (by exact hid) ?_ (by omega) (by omega) (by rw [swp_size]; exact hl) (by rw [swp_size]; exact hs) fun σ' H' hw => hQ σ' H' (.trans (.trans (.set hid) (.set hid)) hw)
      all_goals (first | (simp [h0, h8, h9, Sort.swp]; done) | (simp [h0, h8, h9, Sort.swp]; omega))
    · have e : Sort.reverseLoop i j d = d := by rw [Sort.reverseLoop, if_neg h]
      rw [e] at hQ
      obtain ⟨il, hil⟩ : ∃ x, x = Jtm.inLoop L133_1 := ⟨_, rfl⟩; rw [li_eq' il hil]
      simp -implicitDefEqProofs (disch := first | omega | with_unfolding_all exact eqR (Eq.refl _)) [nums, -getElem!_pos, -Int.natCast_add, -Int.natCast_mul, -Int.natCast_ediv, L133_1, S133_0, h0, h8, h9, hd]
      subst hil
      try simp -implicitDefEqProofs (disch := first | omega | with_unfolding_all exact eqR (Eq.refl _)) [nums, -getElem!_pos, -Int.natCast_add, -Int.natCast_mul, -Int.natCast_ediv]
      exact hQ _ _ (.refl hid hd)

theorem call_133 {a b : Nat} {H : Heap} {d : Array Int} (hid : id < H.next) (hd : H.obj id = .cells (tB.arr d) none) (hb : b ≤ len) (ha : a < b) (hl : len ≤ d.size) (hs : d.size < 2 ^ 40) :
    Res (callI tab 133 [.sl id 0 len lo ex 1, .int .i64 a, .int .i64 b] H) fun e H' => e = .tup [] ∧ Wr H H' id (.cells (tB.arr (Sort.reverseRange d a b)) none) := by
  refine .enter tab_133 (by simp [AF133]) (.inl rfl) ?_
  simp -implicitDefEqProofs (disch := first | omega | with_unfolding_all exact eqR (Eq.refl _)) [nums, -getElem!_pos, -Int.natCast_add, -Int.natCast_mul, -Int.natCast_ediv, AF133]
  refine l133_1 (len := len) (lo := lo) (ex := ex) _ a (b - 1) _ _ d (Nat.le_refl _) ?_ ?_ ?_ hid hd (by omega) (by omega) hl hs fun σ' H' hw => ?_
  any_goals (first | (simp; done) | skip)
  simp -implicitDefEqProofs (disch := first | omega | with_unfolding_all exact eqR (Eq.refl _)) [nums, -getElem!_pos, -Int.natCast_add, -Int.natCast_mul, -Int.natCast_ediv]
  obtain ⟨H2, e, w⟩ := hw.toFx.wrapA (H := H) (v := .tup []) rfl
  rw [e]
  exact .mk ⟨rfl, w⟩

end
end Go.Mach.Ytl
