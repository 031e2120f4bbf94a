/-
  Pruned copy of the text Nd. By an AI agent.
-/
import Derived.Test.YtlbihaiejbpjoaaGreatNc
import Derived.Test.YtlbihaiejbpjoaaGreatZ10Cc
import Derived.Sort.AssemblyPlain
set_option linter.unusedSimpArgs false
set_option linter.unusedVariables false
set_option maxRecDepth 100000
namespace Go.Mach.Ytl
open Go.Mach
instance : Inhabited Mo := ⟨Mo.zero⟩
theorem part_mid (e : Nat) (p c q : List AV) (h : c.length = e) : part true e (p ++ (c ++ q)) p.length = some (.agg c) := by
  subst h
  simp only [part, if_true]
  rw [if_pos (by simp)]
  simp
def tM : Ty Mo where
  e := 8
  agg := true
  val := mono
  cells := Mo.cells
  len _ := rfl
  pos := by decide
  flat _ := rfl
  one a p q := part_mid 8 p a.cells q rfl
  nn a b n := rfl
  pure a := rfl
  cell a := rfl
def tB : Ty Int where
  e := 1
  agg := false
  val x := .int .u8 x
  cells x := [.int .u8 x]
  len _ := rfl
  pos := by decide
  flat _ := rfl
  one a p q := by simp [part]
  nn a b n := rfl
  pure a := rfl
  cell a := rfl
theorem loadM {d : Array Mo} {i : Nat} (h : i < d.size) : part true 8 (tM.arr d) (i * 8) = some (mono d[i]!) := tM.arr_part d i h
theorem loadB {d : Array Int} {i : Nat} (h : i < d.size) : part false 1 (tB.arr d) i = some (.int .u8 d[i]!) := by
  have := tB.arr_part d i h
  rw [show i * tB.e = i from Nat.mul_one i] at this
  exact this
theorem storeM {H : Heap} {d : Array Mo} {rel : Option Nat} {id i : Nat} {a : Mo} (h : i < d.size) : stO H 8 id (i * 8) (.cells (tM.arr d) rel) (some a.cells) = some ((H.kill rel).set id (.cells (tM.arr (d.setIfInBounds i a)) none)) := by
  have l : (tM.arr d).length = d.size * 8 := tM.arr_length d
  rw [stO_some, if_pos ⟨rfl, by rw [l]; omega⟩]
  have := tM.arr_put d i a h
  simp only [tM] at this ⊢
  rw [this]
theorem storeM2 {H : Heap} {d : Array Mo} {rel : Option Nat} {id i j : Nat} {a x : Mo} (h : i < d.size) : stO H 8 id (i * 8) (.cells (tM.arr (d.setIfInBounds j x)) rel) (some a.cells) = some ((H.kill rel).set id (.cells (tM.arr ((d.setIfInBounds j x).setIfInBounds i a)) none)) := storeM (by simpa using h)
theorem storeB {H : Heap} {d : Array Int} {rel : Option Nat} {id i : Nat} {a : Int} (h : i < d.size) : stO H 1 id i (.cells (tB.arr d) rel) (some [.int .u8 a]) = some ((H.kill rel).set id (.cells (tB.arr (d.setIfInBounds i a)) none)) := by
  have l : (tB.arr d).length = d.size * 1 := tB.arr_length d
  rw [stO_some, if_pos ⟨rfl, by rw [l]; omega⟩]
  have := tB.arr_put d i a h
  rw [show i * tB.e = i from Nat.mul_one i] at this
  have e : tB.cells a = [.int .u8 a] := rfl
  rw [e] at this
  rw [this]
theorem storeB2 {H : Heap} {d : Array Int} {rel : Option Nat} {id i j : Nat} {a x : Int} (h : i < d.size) : stO H 1 id i (.cells (tB.arr (d.setIfInBounds j x)) rel) (some [.int .u8 a]) = some ((H.kill rel).set id (.cells (tB.arr ((d.setIfInBounds j x).setIfInBounds i a)) none)) := storeB (by simpa using h)
def CmpM (g : Nat) (c : Mo → Mo → Int) : Prop := ∀ a b H, callI tab g [mono a, mono b] H = some (.int .i64 (c a b), H)
def ltc (c : Mo → Mo → Int) (a b : Mo) : Bool := decide (c a b < 0)
def ltB (a b : Int) : Bool := decide (a < b)
theorem call_142 {x : Int} {H : Heap} : callI tab 105 [.int .u8 x] H = some (.bool false, H) := by
  refine callI_of (n := 2) ?_
  rw [call_enter tab_142 (by simp [AF142]) (.inr (by simp))]
  simp -implicitDefEqProofs [AF142]
theorem call_135 {x y : Int} {H : Heap} : callI tab 98 [.int .u8 x, .int .u8 y] H = some (.bool (decide (x < y)), H) := by
  refine callI_enter tab_135 (by simp [AF135]) (.inr (by simp)) ?_
  simp -implicitDefEqProofs (disch := first | omega | with_unfolding_all exact eqR (Eq.refl _)) [nums, -getElem!_pos, -Int.natCast_add, -Int.natCast_mul, -Int.natCast_ediv, AF135, call_142]
section
variable {g id len lo : Nat} {ex : Bool} {c : Mo → Mo → Int} {s : List Jtm} {k : KF} {Q : AV → Heap → Prop}
theorem l109_1 (hc : CmpM g c) (a : Nat) : ∀ (j : Nat) (σ : Sig) (H : Heap) (d : Array Mo), σ 0 = .sl id 0 len lo ex 8 → σ 1 = .int .i64 (a : Nat) → σ 3 = .fn g [] [] → σ 9 = .int .i64 (j : Nat) →
    id < H.next → H.obj id = .cells (tM.arr d) none → j < len → len ≤ d.size → d.size < 2 ^ 40 →
    (∀ σ' H', σ' 0 = .sl id 0 len lo ex 8 → σ' 1 = .int .i64 (a : Nat) → σ' 3 = .fn g [] [] → σ' 2 = σ 2 → σ' 8 = σ 8 → Wr H H' id (.cells (tM.arr (Sort.insInner (ltc c) a j d)) none) → Res (ai (callI tab) s k .nrm σ' H') Q) →
    Res (li (callI tab) L109_1 (.inBlock 2 :: s) k σ H) Q := by
  intro j
  induction j with
  | zero =>
    intro σ H d h0 h1 h3 h9 hid hd hj hl hs hQ
    obtain ⟨il, hil⟩ : ∃ x, x = Jtm.inLoop L109_1 := ⟨_, rfl⟩; rw [li_eq' il hil]
    simp -implicitDefEqProofs (disch := first | omega | with_unfolding_all exact eqR (Eq.refl _)) [nums, -getElem!_pos, -Int.natCast_add, -Int.natCast_mul, -Int.natCast_ediv, L109_1, S109_0, h0, h1, h3, h9, hd]
    subst hil
    try simp -implicitDefEqProofs (disch := first | omega | with_unfolding_all exact eqR (Eq.refl _)) [nums, -getElem!_pos, -Int.natCast_add, -Int.natCast_mul, -Int.natCast_ediv]
    refine hQ _ _ ?_ ?_ ?_ ?_ ?_ (.refl hid hd) <;> simp [h0, h1, h3, h9]
  | succ j ih =>
    intro σ H d h0 h1 h3 h9 hid hd hj hl hs hQ
    by_cases ha : a < j + 1
    · by_cases hlt : c d[j + 1]! d[j]! < 0
      · have e : Sort.insInner (ltc c) a (j + 1) d = Sort.insInner (ltc c) a j (Sort.swp d (j + 1) j) := by
          rw [Sort.insInner, if_pos (by simp [ha, ltc, hlt])]
        rw [e] at hQ
        obtain ⟨il, hil⟩ : ∃ x, x = Jtm.inLoop L109_1 := ⟨_, rfl⟩; rw [li_eq' il hil]
        simp -implicitDefEqProofs (disch := first | omega | with_unfolding_all exact eqR (Eq.refl _)) [nums, -getElem!_pos, -Int.natCast_add, -Int.natCast_mul, -Int.natCast_ediv, L109_1, S109_0, h0, h1, h3, h9, hd, hc _ _, loadM, storeM, storeM2]
        subst hil
        try simp -implicitDefEqProofs (disch := first | omega | with_unfolding_all exact eqR (Eq.refl _)) [nums, -getElem!_pos, -Int.natCast_add, -Int.natCast_mul, -Int.natCast_ediv]
        refine ih _ _ (Sort.swp d (j + 1) j) ?_ ?_ ?_ ?_ hid ?_ (by omega) (by simp [Sort.swp]; omega) (by simp [Sort.swp]; omega) fun σ' H' q0 q1 q3 q2 q8 hw => hQ σ' H' q0 q1 q3 (by rw [q2]; simp) (by rw [q8]; simp) (.trans (.trans (.set hid) (.set hid)) hw)
        all_goals simp [h0, h1, h3, h9, Sort.swp]
      · have e : Sort.insInner (ltc c) a (j + 1) d = d := by
          rw [Sort.insInner, if_neg (by simp [ltc, hlt])]
        rw [e] at hQ
        obtain ⟨il, hil⟩ : ∃ x, x = Jtm.inLoop L109_1 := ⟨_, rfl⟩; rw [li_eq' il hil]
        simp -implicitDefEqProofs (disch := first | omega | with_unfolding_all exact eqR (Eq.refl _)) [nums, -getElem!_pos, -Int.natCast_add, -Int.natCast_mul, -Int.natCast_ediv, L109_1, S109_0, h0, h1, h3, h9, hd, hc _ _, loadM, storeM, storeM2]
        subst hil
        try simp -implicitDefEqProofs (disch := first | omega | with_unfolding_all exact eqR (Eq.refl _)) [nums, -getElem!_pos, -Int.natCast_add, -Int.natCast_mul, -Int.natCast_ediv]
        refine hQ _ _ ?_ ?_ ?_ ?_ ?_ (.refl hid hd) <;> simp [h0, h1, h3, h9]
    · have e : Sort.insInner (ltc c) a (j + 1) d = d := by
        rw [Sort.insInner, if_neg (by simp [ha])]
      rw [e] at hQ
      obtain ⟨il, hil⟩ : ∃ x, x = Jtm.inLoop L109_1 := ⟨_, rfl⟩; rw [li_eq' il hil]
      simp -implicitDefEqProofs (disch := first | omega | with_unfolding_all exact eqR (Eq.refl _)) [nums, -getElem!_pos, -Int.natCast_add, -Int.natCast_mul, -Int.natCast_ediv, L109_1, S109_0, h0, h1, h3, h9, hd, hc _ _, loadM, storeM, storeM2]
      subst hil
      try simp -implicitDefEqProofs (disch := first | omega | with_unfolding_all exact eqR (Eq.refl _)) [nums, -getElem!_pos, -Int.natCast_add, -Int.natCast_mul, -Int.natCast_ediv]
      refine hQ _ _ ?_ ?_ ?_ ?_ ?_ (.refl hid hd) <;> simp [h0, h1, h3, h9]
theorem insInner_size {α : Type} [Inhabited α] (lt : α → α → Bool) (a j : Nat) (d : Array α) : (Sort.insInner lt a j d).size = d.size := by
  induction j generalizing d with
  | zero => rfl
  | succ j ih => rw [Sort.insInner]; split <;> simp [ih, Sort.swp]
theorem l109_4 (hc : CmpM g c) (a b : Nat) : ∀ (m i : Nat) (σ : Sig) (H : Heap) (d : Array Mo), b - i = m → σ 0 = .sl id 0 len lo ex 8 → σ 1 = .int .i64 (a : Nat) → σ 2 = .int .i64 (b : Nat) → σ 3 = .fn g [] [] → σ 8 = .int .i64 (i : Nat) →
    id < H.next → H.obj id = .cells (tM.arr d) none → b ≤ len → len ≤ d.size → d.size < 2 ^ 40 →
    (∀ σ' H', Wr H H' id (.cells (tM.arr (Sort.insOuter (ltc c) a b i d)) none) → Res (ai (callI tab) s k .nrm σ' H') Q) →
    Res (li (callI tab) L109_4 (.inBlock 0 :: s) k σ H) Q := by
  intro m
  induction m with
  | zero =>
    intro i σ H d hm h0 h1 h2 h3 h8 hid hd hb hl hs hQ
    have e : Sort.insOuter (ltc c) a b i d = d := by rw [Sort.insOuter, if_neg (by omega)]
    rw [e] at hQ
    obtain ⟨il, hil⟩ : ∃ x, x = Jtm.inLoop L109_4 := ⟨_, rfl⟩; rw [li_eq' il hil]
    simp -implicitDefEqProofs (disch := first | omega | with_unfolding_all exact eqR (Eq.refl _)) [nums, -getElem!_pos, -Int.natCast_add, -Int.natCast_mul, -Int.natCast_ediv, L109_4, h0, h1, h2, h3, h8, hd]
    subst hil
    try simp -implicitDefEqProofs (disch := first | omega | with_unfolding_all exact eqR (Eq.refl _)) [nums, -getElem!_pos, -Int.natCast_add, -Int.natCast_mul, -Int.natCast_ediv]
    exact hQ _ _ (.refl hid hd)
  | succ m ih =>
    intro i σ H d hm h0 h1 h2 h3 h8 hid hd hb hl hs hQ
    have e : Sort.insOuter (ltc c) a b i d = Sort.insOuter (ltc c) a b (i + 1) (Sort.insInner (ltc c) a i d) := by rw [Sort.insOuter, if_pos (by omega)]
    rw [e] at hQ
    obtain ⟨il, hil⟩ : ∃ x, x = Jtm.inLoop L109_4 := ⟨_, rfl⟩; rw [li_eq' il hil]
    simp -implicitDefEqProofs (disch := first | omega | with_unfolding_all exact eqR (Eq.refl _)) [nums, -getElem!_pos, -Int.natCast_add, -Int.natCast_mul, -Int.natCast_ediv, L109_4, S109_3, h0, h1, h2, h3, h8, hd]
    subst hil
    try simp -implicitDefEqProofs (disch := first | omega | with_unfolding_all exact eqR (Eq.refl _)) [nums, -getElem!_pos, -Int.natCast_add, -Int.natCast_mul, -Int.natCast_ediv]
    refine l109_1 (lo := lo) (ex := ex) hc a i _ _ d ?_ ?_ ?_ ?_ hid hd (by omega) hl hs fun σ' H' q0 q1 q3 q2 q8 hw => ?_
    any_goals (first | (simp [h0, h1, h2, h3, h8]; done) | skip)
    have q2' : σ' 2 = .int .i64 b := by rw [q2]; simp [h0, h1, h2, h3, h8]
    have q8' : σ' 8 = .int .i64 i := by rw [q8]; simp [h0, h1, h2, h3, h8]
    simp -implicitDefEqProofs (disch := first | omega | with_unfolding_all exact eqR (Eq.refl _)) [nums, -getElem!_pos, -Int.natCast_add, -Int.natCast_mul, -Int.natCast_ediv, S109_2, q2', q8']
    refine ih (i + 1) _ _ (Sort.insInner (ltc c) a i d) (by omega) ?_ ?_ ?_ ?_ ?_ (by rw [hw.nxt]; exact hid) hw.at hb (by rw [insInner_size]; exact hl) (by rw [insInner_size]; exact hs) fun σ'' H'' hw' => hQ _ _ (hw.trans hw')
    all_goals simp [q0, q1, q3, q2', q8']
theorem call_109 (hc : CmpM g c) {a b : Nat} {H : Heap} {d : Array Mo} (hid : id < H.next) (hd : H.obj id = .cells (tM.arr d) none) (hb : b ≤ len) (ha : a ≤ b) (hl : len ≤ d.size) (hs : d.size < 2 ^ 40) :
    Res (callI tab 73 [.sl id 0 len lo ex 8, .int .i64 a, .int .i64 b, .fn g [] []] H) fun e H' => e = .tup [] ∧ Wr H H' id (.cells (tM.arr (Sort.insertionSort (ltc c) d a b)) none) := by
  refine .enter tab_109 (by simp [AF109]) (.inl rfl) ?_
  simp -implicitDefEqProofs (disch := first | omega | with_unfolding_all exact eqR (Eq.refl _)) [nums, -getElem!_pos, -Int.natCast_add, -Int.natCast_mul, -Int.natCast_ediv, AF109]
  refine l109_4 (lo := lo) (ex := ex) hc a b _ (a + 1) _ _ d rfl ?_ ?_ ?_ ?_ ?_ hid hd hb hl hs fun σ' H' hw => ?_
  any_goals (first | (simp; done) | skip)
  simp -implicitDefEqProofs (disch := first | omega | with_unfolding_all exact eqR (Eq.refl _)) [nums, -getElem!_pos, -Int.natCast_add, -Int.natCast_mul, -Int.natCast_ediv]
  obtain ⟨H2, e, w⟩ := hw.toFx.wrapA (H := H) (v := .tup []) rfl
  rw [e]
  exact .mk ⟨rfl, w⟩
theorem l129_1 (a : Nat) : ∀ (j : Nat) (σ : Sig) (H : Heap) (d : Array Int), σ 0 = .sl id 0 len lo ex 1 → σ 1 = .int .i64 (a : Nat) → σ 7 = .int .i64 (j : Nat) →
    id < H.next → H.obj id = .cells (tB.arr d) none → j < len → len ≤ d.size → d.size < 2 ^ 40 →
    (∀ σ' H', σ' 0 = .sl id 0 len lo ex 1 → σ' 1 = .int .i64 (a : Nat) → σ' 2 = σ 2 → σ' 6 = σ 6 → Wr H H' id (.cells (tB.arr (Sort.insInner ltB a j d)) none) → Res (ai (callI tab) s k .nrm σ' H') Q) →
    Res (li (callI tab) L129_1 (.inBlock 2 :: s) k σ H) Q := by
  intro j
  induction j with
  | zero =>
    intro σ H d h0 h1 h9 hid hd hj hl hs hQ
    obtain ⟨il, hil⟩ : ∃ x, x = Jtm.inLoop L129_1 := ⟨_, rfl⟩; rw [li_eq' il hil]
    simp -implicitDefEqProofs (disch := first | omega | with_unfolding_all exact eqR (Eq.refl _)) [nums, -getElem!_pos, -Int.natCast_add, -Int.natCast_mul, -Int.natCast_ediv, L129_1, S129_0, h0, h1, h9, hd]
    subst hil
    try simp -implicitDefEqProofs (disch := first | omega | with_unfolding_all exact eqR (Eq.refl _)) [nums, -getElem!_pos, -Int.natCast_add, -Int.natCast_mul, -Int.natCast_ediv]
    refine hQ _ _ ?_ ?_ ?_ ?_ (.refl hid hd) <;> simp [h0, h1, h9]
  | succ j ih =>
    intro σ H d h0 h1 h9 hid hd hj hl hs hQ
    by_cases ha : a < j + 1
    · by_cases hlt : d[j + 1]! < d[j]!
      · have e : Sort.insInner ltB a (j + 1) d = Sort.insInner ltB a j (Sort.swp d (j + 1) j) := by
          rw [Sort.insInner, if_pos (by simp [ha, ltB, hlt])]
        rw [e] at hQ
        obtain ⟨il, hil⟩ : ∃ x, x = Jtm.inLoop L129_1 := ⟨_, rfl⟩; rw [li_eq' il hil]
        simp -implicitDefEqProofs (disch := first | omega | with_unfolding_all exact eqR (Eq.refl _)) [nums, -getElem!_pos, -Int.natCast_add, -Int.natCast_mul, -Int.natCast_ediv, L129_1, S129_0, h0, h1, h9, hd, call_135, loadB, storeB, storeB2]
        subst hil
        try simp -implicitDefEqProofs (disch := first | omega | with_unfolding_all exact eqR (Eq.refl _)) [nums, -getElem!_pos, -Int.natCast_add, -Int.natCast_mul, -Int.natCast_ediv]
        refine ih _ _ (Sort.swp d (j + 1) j) ?_ ?_ ?_ hid ?_ (by omega) (by simp [Sort.swp]; omega) (by simp [Sort.swp]; omega) fun σ' H' q0 q1 q2 q8 hw => hQ σ' H' q0 q1 (by rw [q2]; simp) (by rw [q8]; simp) (.trans (.trans (.set hid) (.set hid)) hw)
        all_goals simp [h0, h1, h9, Sort.swp]
      · have e : Sort.insInner ltB a (j + 1) d = d := by
          rw [Sort.insInner, if_neg (by simp [ltB, hlt])]
        rw [e] at hQ
        obtain ⟨il, hil⟩ : ∃ x, x = Jtm.inLoop L129_1 := ⟨_, rfl⟩; rw [li_eq' il hil]
        simp -implicitDefEqProofs (disch := first | omega | with_unfolding_all exact eqR (Eq.refl _)) [nums, -getElem!_pos, -Int.natCast_add, -Int.natCast_mul, -Int.natCast_ediv, L129_1, S129_0, h0, h1, h9, hd, call_135, loadB, storeB, storeB2]
        subst hil
        try simp -implicitDefEqProofs (disch := first | omega | with_unfolding_all exact eqR (Eq.refl _)) [nums, -getElem!_pos, -Int.natCast_add, -Int.natCast_mul, -Int.natCast_ediv]
        refine hQ _ _ ?_ ?_ ?_ ?_ (.refl hid hd) <;> simp [h0, h1, h9]
    · have e : Sort.insInner ltB a (j + 1) d = d := by
        rw [Sort.insInner, if_neg (by simp [ha])]
      rw [e] at hQ
      obtain ⟨il, hil⟩ : ∃ x, x = Jtm.inLoop L129_1 := ⟨_, rfl⟩; rw [li_eq' il hil]
      simp -implicitDefEqProofs (disch := first | omega | with_unfolding_all exact eqR (Eq.refl _)) [nums, -getElem!_pos, -Int.natCast_add, -Int.natCast_mul, -Int.natCast_ediv, L129_1, S129_0, h0, h1, h9, hd, call_135, loadB, storeB, storeB2]
      subst hil
      try simp -implicitDefEqProofs (disch := first | omega | with_unfolding_all exact eqR (Eq.refl _)) [nums, -getElem!_pos, -Int.natCast_add, -Int.natCast_mul, -Int.natCast_ediv]
      refine hQ _ _ ?_ ?_ ?_ ?_ (.refl hid hd) <;> simp [h0, h1, h9]
theorem l129_4 (a b : Nat) : ∀ (m i : Nat) (σ : Sig) (H : Heap) (d : Array Int), b - i = m → σ 0 = .sl id 0 len lo ex 1 → σ 1 = .int .i64 (a : Nat) → σ 2 = .int .i64 (b : Nat) → σ 6 = .int .i64 (i : Nat) →
    id < H.next → H.obj id = .cells (tB.arr d) none → b ≤ len → len ≤ d.size → d.size < 2 ^ 40 →
    (∀ σ' H', Wr H H' id (.cells (tB.arr (Sort.insOuter ltB a b i d)) none) → Res (ai (callI tab) s k .nrm σ' H') Q) →
    Res (li (callI tab) L129_4 (.inBlock 0 :: s) k σ H) Q := by
  intro m
  induction m with
  | zero =>
    intro i σ H d hm h0 h1 h2 h8 hid hd hb hl hs hQ
    have e : Sort.insOuter ltB a b i d = d := by rw [Sort.insOuter, if_neg (by omega)]
    rw [e] at hQ
    obtain ⟨il, hil⟩ : ∃ x, x = Jtm.inLoop L129_4 := ⟨_, rfl⟩; rw [li_eq' il hil]
    simp -implicitDefEqProofs (disch := first | omega | with_unfolding_all exact eqR (Eq.refl _)) [nums, -getElem!_pos, -Int.natCast_add, -Int.natCast_mul, -Int.natCast_ediv, L129_4, h0, h1, h2, h8, hd]
    subst hil
    try simp -implicitDefEqProofs (disch := first | omega | with_unfolding_all exact eqR (Eq.refl _)) [nums, -getElem!_pos, -Int.natCast_add, -Int.natCast_mul, -Int.natCast_ediv]
    exact hQ _ _ (.refl hid hd)
  | succ m ih =>
    intro i σ H d hm h0 h1 h2 h8 hid hd hb hl hs hQ
    have e : Sort.insOuter ltB a b i d = Sort.insOuter ltB a b (i + 1) (Sort.insInner ltB a i d) := by rw [Sort.insOuter, if_pos (by omega)]
    rw [e] at hQ
    obtain ⟨il, hil⟩ : ∃ x, x = Jtm.inLoop L129_4 := ⟨_, rfl⟩; rw [li_eq' il hil]
    simp -implicitDefEqProofs (disch := first | omega | with_unfolding_all exact eqR (Eq.refl _)) [nums, -getElem!_pos, -Int.natCast_add, -Int.natCast_mul, -Int.natCast_ediv, L129_4, S129_3, h0, h1, h2, h8, hd]
    subst hil
    try simp -implicitDefEqProofs (disch := first | omega | with_unfolding_all exact eqR (Eq.refl _)) [nums, -getElem!_pos, -Int.natCast_add, -Int.natCast_mul, -Int.natCast_ediv]
    refine l129_1 (lo := lo) (ex := ex) a i _ _ d ?_ ?_ ?_ hid hd (by omega) hl hs fun σ' H' q0 q1 q2 q8 hw => ?_
    any_goals (first | (simp [h0, h1, h2, h8]; done) | skip)
    have q2' : σ' 2 = .int .i64 b := by rw [q2]; simp [h0, h1, h2, h8]
    have q8' : σ' 6 = .int .i64 i := by rw [q8]; simp [h0, h1, h2, h8]
    simp -implicitDefEqProofs (disch := first | omega | with_unfolding_all exact eqR (Eq.refl _)) [nums, -getElem!_pos, -Int.natCast_add, -Int.natCast_mul, -Int.natCast_ediv, S129_2, q2', q8']
    refine ih (i + 1) _ _ (Sort.insInner ltB a i d) (by omega) ?_ ?_ ?_ ?_ (by rw [hw.nxt]; exact hid) hw.at hb (by rw [insInner_size]; exact hl) (by rw [insInner_size]; exact hs) fun σ'' H'' hw' => hQ _ _ (hw.trans hw')
    all_goals simp [q0, q1, q2', q8']
theorem call_129 {a b : Nat} {H : Heap} {d : Array Int} (hid : id < H.next) (hd : H.obj id = .cells (tB.arr d) none) (hb : b ≤ len) (ha : a ≤ b) (hl : len ≤ d.size) (hs : d.size < 2 ^ 40) :
    Res (callI tab 92 [.sl id 0 len lo ex 1, .int .i64 a, .int .i64 b] H) fun e H' => e = .tup [] ∧ Wr H H' id (.cells (tB.arr (Sort.insertionSort ltB d a b)) none) := by
  refine .enter tab_129 (by simp [AF129]) (.inl rfl) ?_
  simp -implicitDefEqProofs (disch := first | omega | with_unfolding_all exact eqR (Eq.refl _)) [nums, -getElem!_pos, -Int.natCast_add, -Int.natCast_mul, -Int.natCast_ediv, AF129]
  refine l129_4 (lo := lo) (ex := ex) a b _ (a + 1) _ _ d rfl ?_ ?_ ?_ ?_ hid hd hb hl hs fun σ' H' hw => ?_
  any_goals (first | (simp; done) | skip)
  simp -implicitDefEqProofs (disch := first | omega | with_unfolding_all exact eqR (Eq.refl _)) [nums, -getElem!_pos, -Int.natCast_add, -Int.natCast_mul, -Int.natCast_ediv]
  obtain ⟨H2, e, w⟩ := hw.toFx.wrapA (H := H) (v := .tup []) rfl
  rw [e]
  exact .mk ⟨rfl, w⟩
end
end Go.Mach.Ytl
set_option linter.unusedSimpArgs false
set_option linter.unusedVariables false
set_option maxRecDepth 100000
namespace Go.Mach.Ytl
open Go.Mach
section
variable {g id len lo : Nat} {ex : Bool} {c : Mo → Mo → Int} {s : List Jtm} {k : KF} {Q : AV → Heap → Prop}
theorem swp_size {α : Type} [Inhabited α] (d : Array α) (i j : Nat) : (Sort.swp d i j).size = d.size := by simp [Sort.swp]
theorem siftDown_size {α : Type} [Inhabited α] (lt : α → α → Bool) (hi first : Nat) (m : Nat) : ∀ root (d : Array α), hi - root ≤ m → (Sort.siftDown lt hi first root d).size = d.size := by
  induction m with
  | zero => intro root d h; rw [Sort.siftDown, dif_pos (by omega)]
  | succ m ih =>
    intro root d h
    rw [Sort.siftDown]
    repeat' split
    all_goals first | rfl | (rw [ih _ _ (by omega), swp_size])
theorem heapBuild_size {α : Type} [Inhabited α] (lt : α → α → Bool) (hi first k : Nat) (d : Array α) : (Sort.heapBuild lt hi first k d).size = d.size := by
  induction k generalizing d with
  | zero => rfl
  | succ k ih => rw [Sort.heapBuild, ih, siftDown_size lt hi first _ _ _ (Nat.le_refl _)]
theorem l124_3 (hc : CmpM g c) (hi first : Nat) (H0 : Heap) : ∀ (m root : Nat) (σ : Sig) (H : Heap) (d : Array Mo), hi - root ≤ m → σ 0 = .sl id 0 len lo ex 8 → σ 2 = .int .i64 (hi : Nat) → σ 3 = .int .i64 (first : Nat) → σ 4 = .fn g [] [] → σ 10 = .int .i64 (root : Nat) →
    id < H.next → H.obj id = .cells (tM.arr d) none → first + hi ≤ len → root < 2 ^ 40 → len ≤ d.size → d.size < 2 ^ 40 →
    (∀ H', Wr H H' id (.cells (tM.arr (Sort.siftDown (ltc c) hi first root d)) none) → Res (some (wrapA H0 (.tup []) H')) Q) →
    Res (li (callI tab) L124_3 [.inBlock 0] (fink [] false H0) σ H) Q := by
  intro m
  induction m with
  | zero =>
    intro root σ H d hm h0 h2 h3 h4 h10 hid hd hb hr hl hs hQ
    have e : Sort.siftDown (ltc c) hi first root d = d := by rw [Sort.siftDown, dif_pos (by omega)]
    rw [e] at hQ
    obtain ⟨il, hil⟩ : ∃ x, x = Jtm.inLoop L124_3 := ⟨_, rfl⟩; rw [li_eq' il hil]
    simp -implicitDefEqProofs (disch := first | omega | with_unfolding_all exact eqR (Eq.refl _)) [nums, -getElem!_pos, -Int.natCast_add, -Int.natCast_mul, -Int.natCast_ediv, L124_3, S124_0, S124_1, S124_2, h0, h2, h3, h4, h10, hd]
    subst hil
    try simp -implicitDefEqProofs (disch := first | omega | with_unfolding_all exact eqR (Eq.refl _)) [nums, -getElem!_pos, -Int.natCast_add, -Int.natCast_mul, -Int.natCast_ediv]
    exact hQ _ (.refl hid hd)
  | succ m ih =>
    intro root σ H d hm h0 h2 h3 h4 h10 hid hd hb hr hl hs hQ
    by_cases c1 : hi ≤ 2 * root + 1
    · have e : Sort.siftDown (ltc c) hi first root d = d := by rw [Sort.siftDown, dif_pos (by omega)]
      rw [e] at hQ
      obtain ⟨il, hil⟩ : ∃ x, x = Jtm.inLoop L124_3 := ⟨_, rfl⟩; rw [li_eq' il hil]
      simp -implicitDefEqProofs (disch := first | omega | with_unfolding_all exact eqR (Eq.refl _)) [nums, -getElem!_pos, -Int.natCast_add, -Int.natCast_mul, -Int.natCast_ediv, L124_3, S124_0, S124_1, S124_2, h0, h2, h3, h4, h10, hd]
      subst hil
      try simp -implicitDefEqProofs (disch := first | omega | with_unfolding_all exact eqR (Eq.refl _)) [nums, -getElem!_pos, -Int.natCast_add, -Int.natCast_mul, -Int.natCast_ediv]
      exact hQ _ (.refl hid hd)
    · by_cases c2 : 2 * root + 2 < hi
      · by_cases c3 : c d[first + (2 * root + 1)]! d[first + (2 * root + 1) + 1]! < 0
        · by_cases c4 : c d[first + root]! d[first + (2 * root + 1 + 1)]! < 0
          · have e : Sort.siftDown (ltc c) hi first root d = Sort.siftDown (ltc c) hi first (2 * root + 2) (Sort.swp d (first + root) (first + (2 * root + 2))) := by
              rw [Sort.siftDown, dif_neg (by omega), if_pos (by simp only [Bool.and_eq_true, decide_eq_true_eq, ltc]; exact ⟨by omega, c3⟩), if_neg (by simpa [ltc] using c4), dif_pos c2]
            rw [e] at hQ
            obtain ⟨il, hil⟩ : ∃ x, x = Jtm.inLoop L124_3 := ⟨_, rfl⟩; rw [li_eq' il hil]
            simp -implicitDefEqProofs (disch := first | omega | with_unfolding_all exact eqR (Eq.refl _)) [nums, -getElem!_pos, -Int.natCast_add, -Int.natCast_mul, -Int.natCast_ediv, L124_3, S124_0, S124_1, S124_2, h0, h2, h3, h4, h10, hd, hc _ _, loadM, storeM, storeM2]
            subst hil
            try simp -implicitDefEqProofs (disch := first | omega | with_unfolding_all exact eqR (Eq.refl _)) [nums, -getElem!_pos, -Int.natCast_add, -Int.natCast_mul, -Int.natCast_ediv]
            refine ih (2 * root + 2) _ _ (Sort.swp d (first + root) (first + (2 * root + 2))) (by omega) ?_ ?_ ?_ ?_ ?_ (by exact hid) ?_ hb (by omega) (by rw [swp_size]; exact hl) (by rw [swp_size]; exact hs) fun H' hw => hQ H' (.trans (.trans (.set hid) (.set hid)) hw)
            all_goals (first | (simp [h0, h2, h3, h4, h10, Sort.swp]; done) | (simp [h0, h2, h3, h4, h10, Sort.swp]; omega))
          · have e : Sort.siftDown (ltc c) hi first root d = d := by
              rw [Sort.siftDown, dif_neg (by omega), if_pos (by simp only [Bool.and_eq_true, decide_eq_true_eq, ltc]; exact ⟨by omega, c3⟩), if_pos (by simpa [ltc] using c4)]
            rw [e] at hQ
            obtain ⟨il, hil⟩ : ∃ x, x = Jtm.inLoop L124_3 := ⟨_, rfl⟩; rw [li_eq' il hil]
            simp -implicitDefEqProofs (disch := first | omega | with_unfolding_all exact eqR (Eq.refl _)) [nums, -getElem!_pos, -Int.natCast_add, -Int.natCast_mul, -Int.natCast_ediv, L124_3, S124_0, S124_1, S124_2, h0, h2, h3, h4, h10, hd, hc _ _, loadM, storeM, storeM2]
            subst hil
            try simp -implicitDefEqProofs (disch := first | omega | with_unfolding_all exact eqR (Eq.refl _)) [nums, -getElem!_pos, -Int.natCast_add, -Int.natCast_mul, -Int.natCast_ediv]
            exact hQ _ (.refl hid hd)
        · by_cases c4 : c d[first + root]! d[first + (2 * root + 1)]! < 0
          · have e : Sort.siftDown (ltc c) hi first root d = Sort.siftDown (ltc c) hi first (2 * root + 1) (Sort.swp d (first + root) (first + (2 * root + 1))) := by
              rw [Sort.siftDown, dif_neg (by omega), if_neg (by simp only [Bool.and_eq_true, decide_eq_true_eq, ltc]; exact fun x => c3 x.2), if_neg (by simpa [ltc] using c4)]
            rw [e] at hQ
            obtain ⟨il, hil⟩ : ∃ x, x = Jtm.inLoop L124_3 := ⟨_, rfl⟩; rw [li_eq' il hil]
            simp -implicitDefEqProofs (disch := first | omega | with_unfolding_all exact eqR (Eq.refl _)) [nums, -getElem!_pos, -Int.natCast_add, -Int.natCast_mul, -Int.natCast_ediv, L124_3, S124_0, S124_1, S124_2, h0, h2, h3, h4, h10, hd, hc _ _, loadM, storeM, storeM2]
            subst hil
            try simp -implicitDefEqProofs (disch := first | omega | with_unfolding_all exact eqR (Eq.refl _)) [nums, -getElem!_pos, -Int.natCast_add, -Int.natCast_mul, -Int.natCast_ediv]
            refine ih (2 * root + 1) _ _ (Sort.swp d (first + root) (first + (2 * root + 1))) (by omega) ?_ ?_ ?_ ?_ ?_ (by exact hid) ?_ hb (by omega) (by rw [swp_size]; exact hl) (by rw [swp_size]; exact hs) fun H' hw => hQ H' (.trans (.trans (.set hid) (.set hid)) hw)
            all_goals (first | (simp [h0, h2, h3, h4, h10, Sort.swp]; done) | (simp [h0, h2, h3, h4, h10, Sort.swp]; omega))
          · have e : Sort.siftDown (ltc c) hi first root d = d := by
              rw [Sort.siftDown, dif_neg (by omega), if_neg (by simp only [Bool.and_eq_true, decide_eq_true_eq, ltc]; exact fun x => c3 x.2), if_pos (by simpa [ltc] using c4)]
            rw [e] at hQ
            obtain ⟨il, hil⟩ : ∃ x, x = Jtm.inLoop L124_3 := ⟨_, rfl⟩; rw [li_eq' il hil]
            simp -implicitDefEqProofs (disch := first | omega | with_unfolding_all exact eqR (Eq.refl _)) [nums, -getElem!_pos, -Int.natCast_add, -Int.natCast_mul, -Int.natCast_ediv, L124_3, S124_0, S124_1, S124_2, h0, h2, h3, h4, h10, hd, hc _ _, loadM, storeM, storeM2]
            subst hil
            try simp -implicitDefEqProofs (disch := first | omega | with_unfolding_all exact eqR (Eq.refl _)) [nums, -getElem!_pos, -Int.natCast_add, -Int.natCast_mul, -Int.natCast_ediv]
            exact hQ _ (.refl hid hd)
      · by_cases c4 : c d[first + root]! d[first + (2 * root + 1)]! < 0
        · have e : Sort.siftDown (ltc c) hi first root d = Sort.siftDown (ltc c) hi first (2 * root + 1) (Sort.swp d (first + root) (first + (2 * root + 1))) := by
            rw [Sort.siftDown, dif_neg (by omega), if_neg (by simp only [Bool.and_eq_true, decide_eq_true_eq]; omega), if_neg (by simpa [ltc] using c4)]
          rw [e] at hQ
          obtain ⟨il, hil⟩ : ∃ x, x = Jtm.inLoop L124_3 := ⟨_, rfl⟩; rw [li_eq' il hil]
          simp -implicitDefEqProofs (disch := first | omega | with_unfolding_all exact eqR (Eq.refl _)) [nums, -getElem!_pos, -Int.natCast_add, -Int.natCast_mul, -Int.natCast_ediv, L124_3, S124_0, S124_1, S124_2, h0, h2, h3, h4, h10, hd, hc _ _, loadM, storeM, storeM2]
          subst hil
          try simp -implicitDefEqProofs (disch := first | omega | with_unfolding_all exact eqR (Eq.refl _)) [nums, -getElem!_pos, -Int.natCast_add, -Int.natCast_mul, -Int.natCast_ediv]
          refine ih (2 * root + 1) _ _ (Sort.swp d (first + root) (first + (2 * root + 1))) (by omega) ?_ ?_ ?_ ?_ ?_ (by exact hid) ?_ hb (by omega) (by rw [swp_size]; exact hl) (by rw [swp_size]; exact hs) fun H' hw => hQ H' (.trans (.trans (.set hid) (.set hid)) hw)
          all_goals (first | (simp [h0, h2, h3, h4, h10, Sort.swp]; done) | (simp [h0, h2, h3, h4, h10, Sort.swp]; omega))
        · have e : Sort.siftDown (ltc c) hi first root d = d := by
            rw [Sort.siftDown, dif_neg (by omega), if_neg (by simp only [Bool.and_eq_true, decide_eq_true_eq]; omega), if_pos (by simpa [ltc] using c4)]
          rw [e] at hQ
          obtain ⟨il, hil⟩ : ∃ x, x = Jtm.inLoop L124_3 := ⟨_, rfl⟩; rw [li_eq' il hil]
          simp -implicitDefEqProofs (disch := first | omega | with_unfolding_all exact eqR (Eq.refl _)) [nums, -getElem!_pos, -Int.natCast_add, -Int.natCast_mul, -Int.natCast_ediv, L124_3, S124_0, S124_1, S124_2, h0, h2, h3, h4, h10, hd, hc _ _, loadM, storeM, storeM2]
          subst hil
          try simp -implicitDefEqProofs (disch := first | omega | with_unfolding_all exact eqR (Eq.refl _)) [nums, -getElem!_pos, -Int.natCast_add, -Int.natCast_mul, -Int.natCast_ediv]
          exact hQ _ (.refl hid hd)
theorem call_124 (hc : CmpM g c) {lw hi first : Nat} {H : Heap} {d : Array Mo} (hid : id < H.next) (hd : H.obj id = .cells (tM.arr d) none) (hb : first + hi ≤ len) (hr : lw < 2 ^ 40) (hl : len ≤ d.size) (hs : d.size < 2 ^ 40) :
    Res (callI tab 86 [.sl id 0 len lo ex 8, .int .i64 lw, .int .i64 hi, .int .i64 first, .fn g [] []] H) fun e H' => e = .tup [] ∧ Wr H H' id (.cells (tM.arr (Sort.siftDown (ltc c) hi first lw d)) none) := by
  refine .enter tab_124 (by simp [AF124]) (.inl rfl) ?_
  simp -implicitDefEqProofs (disch := first | omega | with_unfolding_all exact eqR (Eq.refl _)) [nums, -getElem!_pos, -Int.natCast_add, -Int.natCast_mul, -Int.natCast_ediv, AF124]
  refine l124_3 (len := len) (lo := lo) (ex := ex) hc hi first H _ lw _ _ d (Nat.le_refl _) ?_ ?_ ?_ ?_ ?_ hid hd hb hr hl hs fun H' hw => ?_
  any_goals (first | (simp; done) | skip)
  obtain ⟨H2, e, w⟩ := hw.toFx.wrapA (H := H) (v := .tup []) rfl
  rw [e]
  exact .mk ⟨rfl, w⟩
theorem l110_1 (hc : CmpM g c) (a hi : Nat) : ∀ (j : Nat) (σ : Sig) (H : Heap) (d : Array Mo), σ 0 = .sl id 0 len lo ex 8 → σ 3 = .fn g [] [] → σ 8 = .int .i64 (a : Nat) → σ 10 = .int .i64 (hi : Nat) → σ 11 = .int .i64 (pr j) →
    id < H.next → H.obj id = .cells (tM.arr d) none → a + hi ≤ len → j < 2 ^ 40 → len ≤ d.size → d.size < 2 ^ 40 →
    (∀ σ' H', σ' 0 = .sl id 0 len lo ex 8 → σ' 3 = .fn g [] [] → σ' 8 = .int .i64 (a : Nat) → σ' 10 = .int .i64 (hi : Nat) → σ' 9 = σ 9 → Wr H H' id (.cells (tM.arr (Sort.heapBuild (ltc c) hi a j d)) none) → Res (ai (callI tab) s k .nrm σ' H') Q) →
    Res (li (callI tab) L110_1 (.inBlock 0 :: s) k σ H) Q := by
  intro j
  induction j with
  | zero =>
    intro σ H d h0 h3 h8 h10 h11 hid hd hb hr hl hs hQ
    rw [pr_zero] at h11
    obtain ⟨il, hil⟩ : ∃ x, x = Jtm.inLoop L110_1 := ⟨_, rfl⟩; rw [li_eq' il hil]
    simp -implicitDefEqProofs (disch := first | omega | with_unfolding_all exact eqR (Eq.refl _)) [nums, -getElem!_pos, -Int.natCast_add, -Int.natCast_mul, -Int.natCast_ediv, L110_1, S110_0, h0, h3, h8, h10, h11, hd]
    subst hil
    try simp -implicitDefEqProofs (disch := first | omega | with_unfolding_all exact eqR (Eq.refl _)) [nums, -getElem!_pos, -Int.natCast_add, -Int.natCast_mul, -Int.natCast_ediv]
    refine hQ _ _ ?_ ?_ ?_ ?_ ?_ (.refl hid hd) <;> simp [h0, h3, h8, h10, h11]
  | succ j ih =>
    intro σ H d h0 h3 h8 h10 h11 hid hd hb hr hl hs hQ
    rw [pr_succ] at h11
    obtain ⟨il, hil⟩ : ∃ x, x = Jtm.inLoop L110_1 := ⟨_, rfl⟩; rw [li_eq' il hil]
    simp -implicitDefEqProofs (disch := first | omega | with_unfolding_all exact eqR (Eq.refl _)) [nums, -getElem!_pos, -Int.natCast_add, -Int.natCast_mul, -Int.natCast_ediv, L110_1, S110_0, h0, h3, h8, h10, h11, hd]
    refine .call (call_124 (len := len) (lo := lo) (ex := ex) hc hid hd hb (by omega) hl hs) fun e H2 ⟨he, hw⟩ => ?_
    subst he
    simp -implicitDefEqProofs (disch := first | omega | with_unfolding_all exact eqR (Eq.refl _)) [nums, -getElem!_pos, -Int.natCast_add, -Int.natCast_mul, -Int.natCast_ediv, wrap_pr, h0, h3, h8, h10, h11]
    subst hil
    try simp -implicitDefEqProofs (disch := first | omega | with_unfolding_all exact eqR (Eq.refl _)) [nums, -getElem!_pos, -Int.natCast_add, -Int.natCast_mul, -Int.natCast_ediv]
    refine ih _ _ _ ?_ ?_ ?_ ?_ ?_ (by rw [hw.nxt]; exact hid) hw.at hb (by omega) (by rw [siftDown_size _ _ _ _ _ _ (Nat.le_refl _)]; exact hl) (by rw [siftDown_size _ _ _ _ _ _ (Nat.le_refl _)]; exact hs) fun σ' H' q0 q3 q8 q10 q9 hw' => hQ σ' H' q0 q3 q8 q10 (by rw [q9]; simp) (hw.trans hw')
    all_goals simp [h0, h3, h8, h10, h11]
theorem l110_3 (hc : CmpM g c) (a : Nat) : ∀ (j : Nat) (σ : Sig) (H : Heap) (d : Array Mo), σ 0 = .sl id 0 len lo ex 8 → σ 3 = .fn g [] [] → σ 8 = .int .i64 (a : Nat) → σ 9 = .int .i64 0 → σ 12 = .int .i64 (pr j) →
    id < H.next → H.obj id = .cells (tM.arr d) none → a + j ≤ len → len ≤ d.size → d.size < 2 ^ 40 →
    (∀ σ' H', Wr H H' id (.cells (tM.arr (Sort.heapPop (ltc c) a j d)) none) → Res (ai (callI tab) s k .nrm σ' H') Q) →
    Res (li (callI tab) L110_3 (.inBlock 2 :: s) k σ H) Q := by
  intro j
  induction j with
  | zero =>
    intro σ H d h0 h3 h8 h9 h12 hid hd hb hl hs hQ
    rw [pr_zero] at h12
    obtain ⟨il, hil⟩ : ∃ x, x = Jtm.inLoop L110_3 := ⟨_, rfl⟩; rw [li_eq' il hil]
    simp -implicitDefEqProofs (disch := first | omega | with_unfolding_all exact eqR (Eq.refl _)) [nums, -getElem!_pos, -Int.natCast_add, -Int.natCast_mul, -Int.natCast_ediv, L110_3, S110_2, h0, h3, h8, h9, h12, hd]
    subst hil
    try simp -implicitDefEqProofs (disch := first | omega | with_unfolding_all exact eqR (Eq.refl _)) [nums, -getElem!_pos, -Int.natCast_add, -Int.natCast_mul, -Int.natCast_ediv]
    exact hQ _ _ (.refl hid hd)
  | succ j ih =>
    intro σ H d h0 h3 h8 h9 h12 hid hd hb hl hs hQ
    rw [pr_succ] at h12
    obtain ⟨il, hil⟩ : ∃ x, x = Jtm.inLoop L110_3 := ⟨_, rfl⟩; rw [li_eq' il hil]
    simp -implicitDefEqProofs (disch := first | omega | with_unfolding_all exact eqR (Eq.refl _)) [nums, -getElem!_pos, -Int.natCast_add, -Int.natCast_mul, -Int.natCast_ediv, L110_3, S110_2, h0, h3, h8, h9, h12, hd, loadM, storeM, storeM2]
    refine .call (call_124 (H := (H.set _ _).set _ _) (lw := 0) (hi := j) (first := a) (len := len) (lo := lo) (ex := ex) (d := Sort.swp d a (a + j)) hc hid (by simp [Sort.swp]) (by omega) (by omega) (by rw [swp_size]; exact hl) (by rw [swp_size]; exact hs)) fun e H2 ⟨he, hw⟩ => ?_
    subst he
    simp -implicitDefEqProofs (disch := first | omega | with_unfolding_all exact eqR (Eq.refl _)) [nums, -getElem!_pos, -Int.natCast_add, -Int.natCast_mul, -Int.natCast_ediv, wrap_pr, h0, h3, h8, h9, h12]
    subst hil
    try simp -implicitDefEqProofs (disch := first | omega | with_unfolding_all exact eqR (Eq.refl _)) [nums, -getElem!_pos, -Int.natCast_add, -Int.natCast_mul, -Int.natCast_ediv]
    refine ih _ _ _ ?_ ?_ ?_ ?_ ?_ (by rw [hw.nxt]; exact hid) hw.at (by omega) (by rw [siftDown_size _ _ _ _ _ _ (Nat.le_refl _), swp_size]; exact hl) (by rw [siftDown_size _ _ _ _ _ _ (Nat.le_refl _), swp_size]; exact hs) fun σ' H' hw' => hQ σ' H' ((Wr.trans (.trans (.set hid) (.set hid)) hw).trans hw')
    all_goals simp [h0, h3, h8, h9, h12]
theorem call_110 (hc : CmpM g c) {a b : Nat} {H : Heap} {d : Array Mo} (hid : id < H.next) (hd : H.obj id = .cells (tM.arr d) none) (hb : b ≤ len) (ha : a < b) (hl : len ≤ d.size) (hs : d.size < 2 ^ 40) :
    Res (callI tab 74 [.sl id 0 len lo ex 8, .int .i64 a, .int .i64 b, .fn g [] []] H) fun e H' => e = .tup [] ∧ Wr H H' id (.cells (tM.arr (Sort.heapSort (ltc c) d a b)) none) := by
  refine .enter tab_110 (by simp [AF110]) (.inl rfl) ?_
  simp -implicitDefEqProofs (disch := first | omega | with_unfolding_all exact eqR (Eq.refl _)) [nums, -getElem!_pos, -Int.natCast_add, -Int.natCast_mul, -Int.natCast_ediv, AF110]
  refine l110_1 (len := len) (lo := lo) (ex := ex) hc a (b - a) ((b - a - 1) / 2 + 1) _ _ d ?_ ?_ ?_ ?_ ?_ hid hd (by omega) (by omega) hl hs fun σ' H' q0 q3 q8 q10 q9 hw => ?_
  any_goals (first | (simp [pr_succ]; done) | skip)
  have q9' : σ' 9 = .int .i64 0 := by rw [q9]; simp
  simp -implicitDefEqProofs (disch := first | omega | with_unfolding_all exact eqR (Eq.refl _)) [nums, -getElem!_pos, -Int.natCast_add, -Int.natCast_mul, -Int.natCast_ediv, S110_4, q0, q3, q8, q10]
  refine l110_3 (len := len) (lo := lo) (ex := ex) hc a (b - a) _ _ _ ?_ ?_ ?_ ?_ ?_ (by rw [hw.nxt]; exact hid) hw.at (by omega) (by rw [heapBuild_size]; exact hl) (by rw [heapBuild_size]; exact hs) fun σ'' H'' hw' => ?_
  any_goals (first | (simp [q0, q3, q8, q10, q9', pr]; done) | (simp [q0, q3, q8, q10, q9', pr]; omega) | skip)
  simp -implicitDefEqProofs (disch := first | omega | with_unfolding_all exact eqR (Eq.refl _)) [nums, -getElem!_pos, -Int.natCast_add, -Int.natCast_mul, -Int.natCast_ediv]
  obtain ⟨H2, e, w⟩ := (hw.trans hw').toFx.wrapA (H := H) (v := .tup []) rfl
  rw [e]
  exact .mk ⟨rfl, w⟩
theorem l113_1 : ∀ (m i j : Nat) (σ : Sig) (H : Heap) (d : Array Mo), j - i ≤ m → σ 0 = .sl id 0 len lo ex 8 → σ 8 = .int .i64 (i : Nat) → σ 9 = .int .i64 (j : Nat) →
    id < H.next → H.obj id = .cells (tM.arr d) none → j < len → i < 2 ^ 40 → len ≤ d.size → d.size < 2 ^ 40 →
    (∀ σ' H', Wr H H' id (.cells (tM.arr (Sort.reverseLoop i j d)) none) → Res (ai (callI tab) s k .nrm σ' H') Q) →
    Res (li (callI tab) L113_1 (.inBlock 0 :: s) k σ H) Q := by
  intro m
  induction m with
  | zero =>
    intro i j σ H d hm h0 h8 h9 hid hd hb hi hl hs hQ
    have e : Sort.reverseLoop i j d = d := by rw [Sort.reverseLoop, if_neg (by omega)]
    rw [e] at hQ
    obtain ⟨il, hil⟩ : ∃ x, x = Jtm.inLoop L113_1 := ⟨_, rfl⟩; rw [li_eq' il hil]
    simp -implicitDefEqProofs (disch := first | omega | with_unfolding_all exact eqR (Eq.refl _)) [nums, -getElem!_pos, -Int.natCast_add, -Int.natCast_mul, -Int.natCast_ediv, L113_1, S113_0, h0, h8, h9, hd]
    subst hil
    try simp -implicitDefEqProofs (disch := first | omega | with_unfolding_all exact eqR (Eq.refl _)) [nums, -getElem!_pos, -Int.natCast_add, -Int.natCast_mul, -Int.natCast_ediv]
    exact hQ _ _ (.refl hid hd)
  | succ m ih =>
    intro i j σ H d hm h0 h8 h9 hid hd hb hi hl hs hQ
    by_cases h : i < j
    · have e : Sort.reverseLoop i j d = Sort.reverseLoop (i + 1) (j - 1) (Sort.swp d i j) := by rw [Sort.reverseLoop, if_pos h]
      rw [e] at hQ
      obtain ⟨il, hil⟩ : ∃ x, x = Jtm.inLoop L113_1 := ⟨_, rfl⟩; rw [li_eq' il hil]
      simp -implicitDefEqProofs (disch := first | omega | with_unfolding_all exact eqR (Eq.refl _)) [nums, -getElem!_pos, -Int.natCast_add, -Int.natCast_mul, -Int.natCast_ediv, L113_1, S113_0, h0, h8, h9, hd, loadM, storeM, storeM2]
      subst hil
      try simp -implicitDefEqProofs (disch := first | omega | with_unfolding_all exact eqR (Eq.refl _)) [nums, -getElem!_pos, -Int.natCast_add, -Int.natCast_mul, -Int.natCast_ediv]
      refine ih (i + 1) (j - 1) _ _ (Sort.swp d i j) (by omega) ?_ ?_ ?_ (by exact hid) ?_ (by omega) (by omega) (by rw [swp_size]; exact hl) (by rw [swp_size]; exact hs) fun σ' H' hw => hQ σ' H' (.trans (.trans (.set hid) (.set hid)) hw)
      all_goals (first | (simp [h0, h8, h9, Sort.swp]; done) | (simp [h0, h8, h9, Sort.swp]; omega))
    · have e : Sort.reverseLoop i j d = d := by rw [Sort.reverseLoop, if_neg h]
      rw [e] at hQ
      obtain ⟨il, hil⟩ : ∃ x, x = Jtm.inLoop L113_1 := ⟨_, rfl⟩; rw [li_eq' il hil]
      simp -implicitDefEqProofs (disch := first | omega | with_unfolding_all exact eqR (Eq.refl _)) [nums, -getElem!_pos, -Int.natCast_add, -Int.natCast_mul, -Int.natCast_ediv, L113_1, S113_0, h0, h8, h9, hd]
      subst hil
      try simp -implicitDefEqProofs (disch := first | omega | with_unfolding_all exact eqR (Eq.refl _)) [nums, -getElem!_pos, -Int.natCast_add, -Int.natCast_mul, -Int.natCast_ediv]
      exact hQ _ _ (.refl hid hd)
theorem call_113 {a b : Nat} {cv : AV} {H : Heap} {d : Array Mo} (hid : id < H.next) (hd : H.obj id = .cells (tM.arr d) none) (hb : b ≤ len) (ha : a < b) (hl : len ≤ d.size) (hs : d.size < 2 ^ 40) :
    Res (callI tab 77 [.sl id 0 len lo ex 8, .int .i64 a, .int .i64 b, cv] H) fun e H' => e = .tup [] ∧ Wr H H' id (.cells (tM.arr (Sort.reverseRange d a b)) none) := by
  refine .enter tab_113 (by simp [AF113]) (.inl rfl) ?_
  simp -implicitDefEqProofs (disch := first | omega | with_unfolding_all exact eqR (Eq.refl _)) [nums, -getElem!_pos, -Int.natCast_add, -Int.natCast_mul, -Int.natCast_ediv, AF113]
  refine l113_1 (len := len) (lo := lo) (ex := ex) _ a (b - 1) _ _ d (Nat.le_refl _) ?_ ?_ ?_ hid hd (by omega) (by omega) hl hs fun σ' H' hw => ?_
  any_goals (first | (simp; done) | skip)
  simp -implicitDefEqProofs (disch := first | omega | with_unfolding_all exact eqR (Eq.refl _)) [nums, -getElem!_pos, -Int.natCast_add, -Int.natCast_mul, -Int.natCast_ediv]
  obtain ⟨H2, e, w⟩ := hw.toFx.wrapA (H := H) (v := .tup []) rfl
  rw [e]
  exact .mk ⟨rfl, w⟩
theorem l139_3 (hi first : Nat) (H0 : Heap) : ∀ (m root : Nat) (σ : Sig) (H : Heap) (d : Array Int), hi - root ≤ m → σ 0 = .sl id 0 len lo ex 1 → σ 2 = .int .i64 (hi : Nat) → σ 3 = .int .i64 (first : Nat) → σ 8 = .int .i64 (root : Nat) →
    id < H.next → H.obj id = .cells (tB.arr d) none → first + hi ≤ len → root < 2 ^ 40 → len ≤ d.size → d.size < 2 ^ 40 →
    (∀ H', Wr H H' id (.cells (tB.arr (Sort.siftDown ltB hi first root d)) none) → Res (some (wrapA H0 (.tup []) H')) Q) →
    Res (li (callI tab) L139_3 [.inBlock 0] (fink [] false H0) σ H) Q := by
  intro m
  induction m with
  | zero =>
    intro root σ H d hm h0 h2 h3 h10 hid hd hb hr hl hs hQ
    have e : Sort.siftDown ltB hi first root d = d := by rw [Sort.siftDown, dif_pos (by omega)]
    rw [e] at hQ
    obtain ⟨il, hil⟩ : ∃ x, x = Jtm.inLoop L139_3 := ⟨_, rfl⟩; rw [li_eq' il hil]
    simp -implicitDefEqProofs (disch := first | omega | with_unfolding_all exact eqR (Eq.refl _)) [nums, -getElem!_pos, -Int.natCast_add, -Int.natCast_mul, -Int.natCast_ediv, L139_3, S139_0, S139_1, S139_2, h0, h2, h3, h10, hd]
    subst hil
    try simp -implicitDefEqProofs (disch := first | omega | with_unfolding_all exact eqR (Eq.refl _)) [nums, -getElem!_pos, -Int.natCast_add, -Int.natCast_mul, -Int.natCast_ediv]
    exact hQ _ (.refl hid hd)
  | succ m ih =>
    intro root σ H d hm h0 h2 h3 h10 hid hd hb hr hl hs hQ
    by_cases c1 : hi ≤ 2 * root + 1
    · have e : Sort.siftDown ltB hi first root d = d := by rw [Sort.siftDown, dif_pos (by omega)]
      rw [e] at hQ
      obtain ⟨il, hil⟩ : ∃ x, x = Jtm.inLoop L139_3 := ⟨_, rfl⟩; rw [li_eq' il hil]
      simp -implicitDefEqProofs (disch := first | omega | with_unfolding_all exact eqR (Eq.refl _)) [nums, -getElem!_pos, -Int.natCast_add, -Int.natCast_mul, -Int.natCast_ediv, L139_3, S139_0, S139_1, S139_2, h0, h2, h3, h10, hd]
      subst hil
      try simp -implicitDefEqProofs (disch := first | omega | with_unfolding_all exact eqR (Eq.refl _)) [nums, -getElem!_pos, -Int.natCast_add, -Int.natCast_mul, -Int.natCast_ediv]
      exact hQ _ (.refl hid hd)
    · by_cases c2 : 2 * root + 2 < hi
      · by_cases c3 : d[first + (2 * root + 1)]! < d[first + (2 * root + 1) + 1]!
        · by_cases c4 : d[first + root]! < d[first + (2 * root + 1 + 1)]!
          · have e : Sort.siftDown ltB hi first root d = Sort.siftDown ltB hi first (2 * root + 2) (Sort.swp d (first + root) (first + (2 * root + 2))) := by
              rw [Sort.siftDown, dif_neg (by omega), if_pos (by simp only [Bool.and_eq_true, decide_eq_true_eq, ltB]; exact ⟨by omega, c3⟩), if_neg (by simpa [ltB] using c4), dif_pos c2]
            rw [e] at hQ
            obtain ⟨il, hil⟩ : ∃ x, x = Jtm.inLoop L139_3 := ⟨_, rfl⟩; rw [li_eq' il hil]
            simp -implicitDefEqProofs (disch := first | omega | with_unfolding_all exact eqR (Eq.refl _)) [nums, -getElem!_pos, -Int.natCast_add, -Int.natCast_mul, -Int.natCast_ediv, L139_3, S139_0, S139_1, S139_2, h0, h2, h3, h10, hd, call_135, loadB, storeB, storeB2]
            subst hil
            try simp -implicitDefEqProofs (disch := first | omega | with_unfolding_all exact eqR (Eq.refl _)) [nums, -getElem!_pos, -Int.natCast_add, -Int.natCast_mul, -Int.natCast_ediv]
            refine ih (2 * root + 2) _ _ (Sort.swp d (first + root) (first + (2 * root + 2))) (by omega) ?_ ?_ ?_ ?_ (by exact hid) ?_ hb (by omega) (by rw [swp_size]; exact hl) (by rw [swp_size]; exact hs) fun H' hw => hQ H' (.trans (.trans (.set hid) (.set hid)) hw)
            all_goals (first | (simp [h0, h2, h3, h10, Sort.swp]; done) | (simp [h0, h2, h3, h10, Sort.swp]; omega))
          · have e : Sort.siftDown ltB hi first root d = d := by
              rw [Sort.siftDown, dif_neg (by omega), if_pos (by simp only [Bool.and_eq_true, decide_eq_true_eq, ltB]; exact ⟨by omega, c3⟩), if_pos (by simpa [ltB] using c4)]
            rw [e] at hQ
            obtain ⟨il, hil⟩ : ∃ x, x = Jtm.inLoop L139_3 := ⟨_, rfl⟩; rw [li_eq' il hil]
            simp -implicitDefEqProofs (disch := first | omega | with_unfolding_all exact eqR (Eq.refl _)) [nums, -getElem!_pos, -Int.natCast_add, -Int.natCast_mul, -Int.natCast_ediv, L139_3, S139_0, S139_1, S139_2, h0, h2, h3, h10, hd, call_135, loadB, storeB, storeB2]
            subst hil
            try simp -implicitDefEqProofs (disch := first | omega | with_unfolding_all exact eqR (Eq.refl _)) [nums, -getElem!_pos, -Int.natCast_add, -Int.natCast_mul, -Int.natCast_ediv]
            exact hQ _ (.refl hid hd)
        · by_cases c4 : d[first + root]! < d[first + (2 * root + 1)]!
          · have e : Sort.siftDown ltB hi first root d = Sort.siftDown ltB hi first (2 * root + 1) (Sort.swp d (first + root) (first + (2 * root + 1))) := by
              rw [Sort.siftDown, dif_neg (by omega), if_neg (by simp only [Bool.and_eq_true, decide_eq_true_eq, ltB]; exact fun x => c3 x.2), if_neg (by simpa [ltB] using c4)]
            rw [e] at hQ
            obtain ⟨il, hil⟩ : ∃ x, x = Jtm.inLoop L139_3 := ⟨_, rfl⟩; rw [li_eq' il hil]
            simp -implicitDefEqProofs (disch := first | omega | with_unfolding_all exact eqR (Eq.refl _)) [nums, -getElem!_pos, -Int.natCast_add, -Int.natCast_mul, -Int.natCast_ediv, L139_3, S139_0, S139_1, S139_2, h0, h2, h3, h10, hd, call_135, loadB, storeB, storeB2]
            subst hil
            try simp -implicitDefEqProofs (disch := first | omega | with_unfolding_all exact eqR (Eq.refl _)) [nums, -getElem!_pos, -Int.natCast_add, -Int.natCast_mul, -Int.natCast_ediv]
            refine ih (2 * root + 1) _ _ (Sort.swp d (first + root) (first + (2 * root + 1))) (by omega) ?_ ?_ ?_ ?_ (by exact hid) ?_ hb (by omega) (by rw [swp_size]; exact hl) (by rw [swp_size]; exact hs) fun H' hw => hQ H' (.trans (.trans (.set hid) (.set hid)) hw)
            all_goals (first | (simp [h0, h2, h3, h10, Sort.swp]; done) | (simp [h0, h2, h3, h10, Sort.swp]; omega))
          · have e : Sort.siftDown ltB hi first root d = d := by
              rw [Sort.siftDown, dif_neg (by omega), if_neg (by simp only [Bool.and_eq_true, decide_eq_true_eq, ltB]; exact fun x => c3 x.2), if_pos (by simpa [ltB] using c4)]
            rw [e] at hQ
            obtain ⟨il, hil⟩ : ∃ x, x = Jtm.inLoop L139_3 := ⟨_, rfl⟩; rw [li_eq' il hil]
            simp -implicitDefEqProofs (disch := first | omega | with_unfolding_all exact eqR (Eq.refl _)) [nums, -getElem!_pos, -Int.natCast_add, -Int.natCast_mul, -Int.natCast_ediv, L139_3, S139_0, S139_1, S139_2, h0, h2, h3, h10, hd, call_135, loadB, storeB, storeB2]
            subst hil
            try simp -implicitDefEqProofs (disch := first | omega | with_unfolding_all exact eqR (Eq.refl _)) [nums, -getElem!_pos, -Int.natCast_add, -Int.natCast_mul, -Int.natCast_ediv]
            exact hQ _ (.refl hid hd)
      · by_cases c4 : d[first + root]! < d[first + (2 * root + 1)]!
        · have e : Sort.siftDown ltB hi first root d = Sort.siftDown ltB hi first (2 * root + 1) (Sort.swp d (first + root) (first + (2 * root + 1))) := by
            rw [Sort.siftDown, dif_neg (by omega), if_neg (by simp only [Bool.and_eq_true, decide_eq_true_eq]; omega), if_neg (by simpa [ltB] using c4)]
          rw [e] at hQ
          obtain ⟨il, hil⟩ : ∃ x, x = Jtm.inLoop L139_3 := ⟨_, rfl⟩; rw [li_eq' il hil]
          simp -implicitDefEqProofs (disch := first | omega | with_unfolding_all exact eqR (Eq.refl _)) [nums, -getElem!_pos, -Int.natCast_add, -Int.natCast_mul, -Int.natCast_ediv, L139_3, S139_0, S139_1, S139_2, h0, h2, h3, h10, hd, call_135, loadB, storeB, storeB2]
          subst hil
          try simp -implicitDefEqProofs (disch := first | omega | with_unfolding_all exact eqR (Eq.refl _)) [nums, -getElem!_pos, -Int.natCast_add, -Int.natCast_mul, -Int.natCast_ediv]
          refine ih (2 * root + 1) _ _ (Sort.swp d (first + root) (first + (2 * root + 1))) (by omega) ?_ ?_ ?_ ?_ (by exact hid) ?_ hb (by omega) (by rw [swp_size]; exact hl) (by rw [swp_size]; exact hs) fun H' hw => hQ H' (.trans (.trans (.set hid) (.set hid)) hw)
          all_goals (first | (simp [h0, h2, h3, h10, Sort.swp]; done) | (simp [h0, h2, h3, h10, Sort.swp]; omega))
        · have e : Sort.siftDown ltB hi first root d = d := by
            rw [Sort.siftDown, dif_neg (by omega), if_neg (by simp only [Bool.and_eq_true, decide_eq_true_eq]; omega), if_pos (by simpa [ltB] using c4)]
          rw [e] at hQ
          obtain ⟨il, hil⟩ : ∃ x, x = Jtm.inLoop L139_3 := ⟨_, rfl⟩; rw [li_eq' il hil]
          simp -implicitDefEqProofs (disch := first | omega | with_unfolding_all exact eqR (Eq.refl _)) [nums, -getElem!_pos, -Int.natCast_add, -Int.natCast_mul, -Int.natCast_ediv, L139_3, S139_0, S139_1, S139_2, h0, h2, h3, h10, hd, call_135, loadB, storeB, storeB2]
          subst hil
          try simp -implicitDefEqProofs (disch := first | omega | with_unfolding_all exact eqR (Eq.refl _)) [nums, -getElem!_pos, -Int.natCast_add, -Int.natCast_mul, -Int.natCast_ediv]
          exact hQ _ (.refl hid hd)
theorem call_139 {lw hi first : Nat} {H : Heap} {d : Array Int} (hid : id < H.next) (hd : H.obj id = .cells (tB.arr d) none) (hb : first + hi ≤ len) (hr : lw < 2 ^ 40) (hl : len ≤ d.size) (hs : d.size < 2 ^ 40) :
    Res (callI tab 102 [.sl id 0 len lo ex 1, .int .i64 lw, .int .i64 hi, .int .i64 first] H) fun e H' => e = .tup [] ∧ Wr H H' id (.cells (tB.arr (Sort.siftDown ltB hi first lw d)) none) := by
  refine .enter tab_139 (by simp [AF139]) (.inl rfl) ?_
  simp -implicitDefEqProofs (disch := first | omega | with_unfolding_all exact eqR (Eq.refl _)) [nums, -getElem!_pos, -Int.natCast_add, -Int.natCast_mul, -Int.natCast_ediv, AF139]
  refine l139_3 (len := len) (lo := lo) (ex := ex) hi first H _ lw _ _ d (Nat.le_refl _) ?_ ?_ ?_ ?_ hid hd hb hr hl hs fun H' hw => ?_
  any_goals (first | (simp; done) | skip)
  obtain ⟨H2, e, w⟩ := hw.toFx.wrapA (H := H) (v := .tup []) rfl
  rw [e]
  exact .mk ⟨rfl, w⟩
theorem l130_1 (a hi : Nat) : ∀ (j : Nat) (σ : Sig) (H : Heap) (d : Array Int), σ 0 = .sl id 0 len lo ex 1 → σ 6 = .int .i64 (a : Nat) → σ 8 = .int .i64 (hi : Nat) → σ 9 = .int .i64 (pr j) →
    id < H.next → H.obj id = .cells (tB.arr d) none → a + hi ≤ len → j < 2 ^ 40 → len ≤ d.size → d.size < 2 ^ 40 →
    (∀ σ' H', σ' 0 = .sl id 0 len lo ex 1 → σ' 6 = .int .i64 (a : Nat) → σ' 8 = .int .i64 (hi : Nat) → σ' 7 = σ 7 → Wr H H' id (.cells (tB.arr (Sort.heapBuild ltB hi a j d)) none) → Res (ai (callI tab) s k .nrm σ' H') Q) →
    Res (li (callI tab) L130_1 (.inBlock 0 :: s) k σ H) Q := by
  intro j
  induction j with
  | zero =>
    intro σ H d h0 h8 h10 h11 hid hd hb hr hl hs hQ
    rw [pr_zero] at h11
    obtain ⟨il, hil⟩ : ∃ x, x = Jtm.inLoop L130_1 := ⟨_, rfl⟩; rw [li_eq' il hil]
    simp -implicitDefEqProofs (disch := first | omega | with_unfolding_all exact eqR (Eq.refl _)) [nums, -getElem!_pos, -Int.natCast_add, -Int.natCast_mul, -Int.natCast_ediv, L130_1, S130_0, h0, h8, h10, h11, hd]
    subst hil
    try simp -implicitDefEqProofs (disch := first | omega | with_unfolding_all exact eqR (Eq.refl _)) [nums, -getElem!_pos, -Int.natCast_add, -Int.natCast_mul, -Int.natCast_ediv]
    refine hQ _ _ ?_ ?_ ?_ ?_ (.refl hid hd) <;> simp [h0, h8, h10, h11]
  | succ j ih =>
    intro σ H d h0 h8 h10 h11 hid hd hb hr hl hs hQ
    rw [pr_succ] at h11
    obtain ⟨il, hil⟩ : ∃ x, x = Jtm.inLoop L130_1 := ⟨_, rfl⟩; rw [li_eq' il hil]
    simp -implicitDefEqProofs (disch := first | omega | with_unfolding_all exact eqR (Eq.refl _)) [nums, -getElem!_pos, -Int.natCast_add, -Int.natCast_mul, -Int.natCast_ediv, L130_1, S130_0, h0, h8, h10, h11, hd]
    refine .call (call_139 (len := len) (lo := lo) (ex := ex) hid hd hb (by omega) hl hs) fun e H2 ⟨he, hw⟩ => ?_
    subst he
    simp -implicitDefEqProofs (disch := first | omega | with_unfolding_all exact eqR (Eq.refl _)) [nums, -getElem!_pos, -Int.natCast_add, -Int.natCast_mul, -Int.natCast_ediv, wrap_pr, h0, h8, h10, h11]
    subst hil
    try simp -implicitDefEqProofs (disch := first | omega | with_unfolding_all exact eqR (Eq.refl _)) [nums, -getElem!_pos, -Int.natCast_add, -Int.natCast_mul, -Int.natCast_ediv]
    refine ih _ _ _ ?_ ?_ ?_ ?_ (by rw [hw.nxt]; exact hid) hw.at hb (by omega) (by rw [siftDown_size _ _ _ _ _ _ (Nat.le_refl _)]; exact hl) (by rw [siftDown_size _ _ _ _ _ _ (Nat.le_refl _)]; exact hs) fun σ' H' q0 q8 q10 q9 hw' => hQ σ' H' q0 q8 q10 (by rw [q9]; simp) (hw.trans hw')
    all_goals simp [h0, h8, h10, h11]
theorem l130_3 (a : Nat) : ∀ (j : Nat) (σ : Sig) (H : Heap) (d : Array Int), σ 0 = .sl id 0 len lo ex 1 → σ 6 = .int .i64 (a : Nat) → σ 7 = .int .i64 0 → σ 10 = .int .i64 (pr j) →
    id < H.next → H.obj id = .cells (tB.arr d) none → a + j ≤ len → len ≤ d.size → d.size < 2 ^ 40 →
    (∀ σ' H', Wr H H' id (.cells (tB.arr (Sort.heapPop ltB a j d)) none) → Res (ai (callI tab) s k .nrm σ' H') Q) →
    Res (li (callI tab) L130_3 (.inBlock 2 :: s) k σ H) Q := by
  intro j
  induction j with
  | zero =>
    intro σ H d h0 h8 h9 h12 hid hd hb hl hs hQ
    rw [pr_zero] at h12
    obtain ⟨il, hil⟩ : ∃ x, x = Jtm.inLoop L130_3 := ⟨_, rfl⟩; rw [li_eq' il hil]
    simp -implicitDefEqProofs (disch := first | omega | with_unfolding_all exact eqR (Eq.refl _)) [nums, -getElem!_pos, -Int.natCast_add, -Int.natCast_mul, -Int.natCast_ediv, L130_3, S130_2, h0, h8, h9, h12, hd]
    subst hil
    try simp -implicitDefEqProofs (disch := first | omega | with_unfolding_all exact eqR (Eq.refl _)) [nums, -getElem!_pos, -Int.natCast_add, -Int.natCast_mul, -Int.natCast_ediv]
    exact hQ _ _ (.refl hid hd)
  | succ j ih =>
    intro σ H d h0 h8 h9 h12 hid hd hb hl hs hQ
    rw [pr_succ] at h12
    obtain ⟨il, hil⟩ : ∃ x, x = Jtm.inLoop L130_3 := ⟨_, rfl⟩; rw [li_eq' il hil]
    simp -implicitDefEqProofs (disch := first | omega | with_unfolding_all exact eqR (Eq.refl _)) [nums, -getElem!_pos, -Int.natCast_add, -Int.natCast_mul, -Int.natCast_ediv, L130_3, S130_2, h0, h8, h9, h12, hd, loadB, storeB, storeB2]
    refine .call (call_139 (H := (H.set _ _).set _ _) (lw := 0) (hi := j) (first := a) (len := len) (lo := lo) (ex := ex) (d := Sort.swp d a (a + j)) hid (by simp [Sort.swp]) (by omega) (by omega) (by rw [swp_size]; exact hl) (by rw [swp_size]; exact hs)) fun e H2 ⟨he, hw⟩ => ?_
    subst he
    simp -implicitDefEqProofs (disch := first | omega | with_unfolding_all exact eqR (Eq.refl _)) [nums, -getElem!_pos, -Int.natCast_add, -Int.natCast_mul, -Int.natCast_ediv, wrap_pr, h0, h8, h9, h12]
    subst hil
    try simp -implicitDefEqProofs (disch := first | omega | with_unfolding_all exact eqR (Eq.refl _)) [nums, -getElem!_pos, -Int.natCast_add, -Int.natCast_mul, -Int.natCast_ediv]
    refine ih _ _ _ ?_ ?_ ?_ ?_ (by rw [hw.nxt]; exact hid) hw.at (by omega) (by rw [siftDown_size _ _ _ _ _ _ (Nat.le_refl _), swp_size]; exact hl) (by rw [siftDown_size _ _ _ _ _ _ (Nat.le_refl _), swp_size]; exact hs) fun σ' H' hw' => hQ σ' H' ((Wr.trans (.trans (.set hid) (.set hid)) hw).trans hw')
    all_goals simp [h0, h8, h9, h12]
theorem call_130 {a b : Nat} {H : Heap} {d : Array Int} (hid : id < H.next) (hd : H.obj id = .cells (tB.arr d) none) (hb : b ≤ len) (ha : a < b) (hl : len ≤ d.size) (hs : d.size < 2 ^ 40) :
    Res (callI tab 93 [.sl id 0 len lo ex 1, .int .i64 a, .int .i64 b] H) fun e H' => e = .tup [] ∧ Wr H H' id (.cells (tB.arr (Sort.heapSort ltB d a b)) none) := by
  refine .enter tab_130 (by simp [AF130]) (.inl rfl) ?_
  simp -implicitDefEqProofs (disch := first | omega | with_unfolding_all exact eqR (Eq.refl _)) [nums, -getElem!_pos, -Int.natCast_add, -Int.natCast_mul, -Int.natCast_ediv, AF130]
  refine l130_1 (len := len) (lo := lo) (ex := ex) a (b - a) ((b - a - 1) / 2 + 1) _ _ d ?_ ?_ ?_ ?_ hid hd (by omega) (by omega) hl hs fun σ' H' q0 q8 q10 q9 hw => ?_
  any_goals (first | (simp [pr_succ]; done) | skip)
  have q9' : σ' 7 = .int .i64 0 := by rw [q9]; simp
  simp -implicitDefEqProofs (disch := first | omega | with_unfolding_all exact eqR (Eq.refl _)) [nums, -getElem!_pos, -Int.natCast_add, -Int.natCast_mul, -Int.natCast_ediv, S130_4, q0, q8, q10]
  refine l130_3 (len := len) (lo := lo) (ex := ex) a (b - a) _ _ _ ?_ ?_ ?_ ?_ (by rw [hw.nxt]; exact hid) hw.at (by omega) (by rw [heapBuild_size]; exact hl) (by rw [heapBuild_size]; exact hs) fun σ'' H'' hw' => ?_
  any_goals (first | (simp [q0, q8, q10, q9', pr]; done) | (simp [q0, q8, q10, q9', pr]; omega) | skip)
  simp -implicitDefEqProofs (disch := first | omega | with_unfolding_all exact eqR (Eq.refl _)) [nums, -getElem!_pos, -Int.natCast_add, -Int.natCast_mul, -Int.natCast_ediv]
  obtain ⟨H2, e, w⟩ := (hw.trans hw').toFx.wrapA (H := H) (v := .tup []) rfl
  rw [e]
  exact .mk ⟨rfl, w⟩
theorem l133_1 : ∀ (m i j : Nat) (σ : Sig) (H : Heap) (d : Array Int), j - i ≤ m → σ 0 = .sl id 0 len lo ex 1 → σ 6 = .int .i64 (i : Nat) → σ 7 = .int .i64 (j : Nat) →
    id < H.next → H.obj id = .cells (tB.arr d) none → j < len → i < 2 ^ 40 → len ≤ d.size → d.size < 2 ^ 40 →
    (∀ σ' H', Wr H H' id (.cells (tB.arr (Sort.reverseLoop i j d)) none) → Res (ai (callI tab) s k .nrm σ' H') Q) →
    Res (li (callI tab) L133_1 (.inBlock 0 :: s) k σ H) Q := by
  intro m
  induction m with
  | zero =>
    intro i j σ H d hm h0 h8 h9 hid hd hb hi hl hs hQ
    have e : Sort.reverseLoop i j d = d := by rw [Sort.reverseLoop, if_neg (by omega)]
    rw [e] at hQ
    obtain ⟨il, hil⟩ : ∃ x, x = Jtm.inLoop L133_1 := ⟨_, rfl⟩; rw [li_eq' il hil]
    simp -implicitDefEqProofs (disch := first | omega | with_unfolding_all exact eqR (Eq.refl _)) [nums, -getElem!_pos, -Int.natCast_add, -Int.natCast_mul, -Int.natCast_ediv, L133_1, S133_0, h0, h8, h9, hd]
    subst hil
    try simp -implicitDefEqProofs (disch := first | omega | with_unfolding_all exact eqR (Eq.refl _)) [nums, -getElem!_pos, -Int.natCast_add, -Int.natCast_mul, -Int.natCast_ediv]
    exact hQ _ _ (.refl hid hd)
  | succ m ih =>
    intro i j σ H d hm h0 h8 h9 hid hd hb hi hl hs hQ
    by_cases h : i < j
    · have e : Sort.reverseLoop i j d = Sort.reverseLoop (i + 1) (j - 1) (Sort.swp d i j) := by rw [Sort.reverseLoop, if_pos h]
      rw [e] at hQ
      obtain ⟨il, hil⟩ : ∃ x, x = Jtm.inLoop L133_1 := ⟨_, rfl⟩; rw [li_eq' il hil]
      simp -implicitDefEqProofs (disch := first | omega | with_unfolding_all exact eqR (Eq.refl _)) [nums, -getElem!_pos, -Int.natCast_add, -Int.natCast_mul, -Int.natCast_ediv, L133_1, S133_0, h0, h8, h9, hd, loadB, storeB, storeB2]
      subst hil
      try simp -implicitDefEqProofs (disch := first | omega | with_unfolding_all exact eqR (Eq.refl _)) [nums, -getElem!_pos, -Int.natCast_add, -Int.natCast_mul, -Int.natCast_ediv]
      refine ih (i + 1) (j - 1) _ _ (Sort.swp d i j) (by omega) ?_ ?_ ?_ (by exact hid) ?_ (by omega) (by omega) (by rw [swp_size]; exact hl) (by rw [swp_size]; exact hs) fun σ' H' hw => hQ σ' H' (.trans (.trans (.set hid) (.set hid)) hw)
      all_goals (first | (simp [h0, h8, h9, Sort.swp]; done) | (simp [h0, h8, h9, Sort.swp]; omega))
    · have e : Sort.reverseLoop i j d = d := by rw [Sort.reverseLoop, if_neg h]
      rw [e] at hQ
      obtain ⟨il, hil⟩ : ∃ x, x = Jtm.inLoop L133_1 := ⟨_, rfl⟩; rw [li_eq' il hil]
      simp -implicitDefEqProofs (disch := first | omega | with_unfolding_all exact eqR (Eq.refl _)) [nums, -getElem!_pos, -Int.natCast_add, -Int.natCast_mul, -Int.natCast_ediv, L133_1, S133_0, h0, h8, h9, hd]
      subst hil
      try simp -implicitDefEqProofs (disch := first | omega | with_unfolding_all exact eqR (Eq.refl _)) [nums, -getElem!_pos, -Int.natCast_add, -Int.natCast_mul, -Int.natCast_ediv]
      exact hQ _ _ (.refl hid hd)
theorem call_133 {a b : Nat} {H : Heap} {d : Array Int} (hid : id < H.next) (hd : H.obj id = .cells (tB.arr d) none) (hb : b ≤ len) (ha : a < b) (hl : len ≤ d.size) (hs : d.size < 2 ^ 40) :
    Res (callI tab 96 [.sl id 0 len lo ex 1, .int .i64 a, .int .i64 b] H) fun e H' => e = .tup [] ∧ Wr H H' id (.cells (tB.arr (Sort.reverseRange d a b)) none) := by
  refine .enter tab_133 (by simp [AF133]) (.inl rfl) ?_
  simp -implicitDefEqProofs (disch := first | omega | with_unfolding_all exact eqR (Eq.refl _)) [nums, -getElem!_pos, -Int.natCast_add, -Int.natCast_mul, -Int.natCast_ediv, AF133]
  refine l133_1 (len := len) (lo := lo) (ex := ex) _ a (b - 1) _ _ d (Nat.le_refl _) ?_ ?_ ?_ hid hd (by omega) (by omega) hl hs fun σ' H' hw => ?_
  any_goals (first | (simp; done) | skip)
  simp -implicitDefEqProofs (disch := first | omega | with_unfolding_all exact eqR (Eq.refl _)) [nums, -getElem!_pos, -Int.natCast_add, -Int.natCast_mul, -Int.natCast_ediv]
  obtain ⟨H2, e, w⟩ := hw.toFx.wrapA (H := H) (v := .tup []) rfl
  rw [e]
  exact .mk ⟨rfl, w⟩
end
end Go.Mach.Ytl
set_option linter.unusedSimpArgs false
set_option linter.unusedVariables false
set_option maxRecDepth 100000
namespace Go.Mach.Ytl
open Go.Mach
def lenTab : ByteArray := ⟨#[0, 1, 2, 2, 3, 3, 3, 3, 4, 4, 4, 4, 4, 4, 4, 4, 5, 5, 5, 5, 5, 5, 5, 5, 5, 5, 5, 5, 5, 5, 5, 5, 6, 6, 6, 6, 6, 6, 6, 6, 6, 6, 6, 6, 6, 6, 6, 6, 6, 6, 6, 6, 6, 6, 6, 6, 6, 6, 6, 6, 6, 6, 6, 6, 7, 7, 7, 7, 7, 7, 7, 7, 7, 7, 7, 7, 7, 7, 7, 7, 7, 7, 7, 7, 7, 7, 7, 7, 7, 7, 7, 7, 7, 7, 7, 7, 7, 7, 7, 7, 7, 7, 7, 7, 7, 7, 7, 7, 7, 7, 7, 7, 7, 7, 7, 7, 7, 7, 7, 7, 7, 7, 7, 7, 7, 7, 7, 7, 8, 8, 8, 8, 8, 8, 8, 8, 8, 8, 8, 8, 8, 8, 8, 8, 8, 8, 8, 8, 8, 8, 8, 8, 8, 8, 8, 8, 8, 8, 8, 8, 8, 8, 8, 8, 8, 8, 8, 8, 8, 8, 8, 8, 8, 8, 8, 8, 8, 8, 8, 8, 8, 8, 8, 8, 8, 8, 8, 8, 8, 8, 8, 8, 8, 8, 8, 8, 8, 8, 8, 8, 8, 8, 8, 8, 8, 8, 8, 8, 8, 8, 8, 8, 8, 8, 8, 8, 8, 8, 8, 8, 8, 8, 8, 8, 8, 8, 8, 8, 8, 8, 8, 8, 8, 8, 8, 8, 8, 8, 8, 8, 8, 8, 8, 8, 8, 8, 8, 8, 8, 8, 8, 8, 8, 8, 8, 8]⟩
theorem lenTab_eq : (⟨#[0, 1, 2, 2, 3, 3, 3, 3, 4, 4, 4, 4, 4, 4, 4, 4, 5, 5, 5, 5, 5, 5, 5, 5, 5, 5, 5, 5, 5, 5, 5, 5, 6, 6, 6, 6, 6, 6, 6, 6, 6, 6, 6, 6, 6, 6, 6, 6, 6, 6, 6, 6, 6, 6, 6, 6, 6, 6, 6, 6, 6, 6, 6, 6, 7, 7, 7, 7, 7, 7, 7, 7, 7, 7, 7, 7, 7, 7, 7, 7, 7, 7, 7, 7, 7, 7, 7, 7, 7, 7, 7, 7, 7, 7, 7, 7, 7, 7, 7, 7, 7, 7, 7, 7, 7, 7, 7, 7, 7, 7, 7, 7, 7, 7, 7, 7, 7, 7, 7, 7, 7, 7, 7, 7, 7, 7, 7, 7, 8, 8, 8, 8, 8, 8, 8, 8, 8, 8, 8, 8, 8, 8, 8, 8, 8, 8, 8, 8, 8, 8, 8, 8, 8, 8, 8, 8, 8, 8, 8, 8, 8, 8, 8, 8, 8, 8, 8, 8, 8, 8, 8, 8, 8, 8, 8, 8, 8, 8, 8, 8, 8, 8, 8, 8, 8, 8, 8, 8, 8, 8, 8, 8, 8, 8, 8, 8, 8, 8, 8, 8, 8, 8, 8, 8, 8, 8, 8, 8, 8, 8, 8, 8, 8, 8, 8, 8, 8, 8, 8, 8, 8, 8, 8, 8, 8, 8, 8, 8, 8, 8, 8, 8, 8, 8, 8, 8, 8, 8, 8, 8, 8, 8, 8, 8, 8, 8, 8, 8, 8, 8, 8, 8, 8, 8, 8, 8]⟩ : ByteArray) = lenTab := rfl
theorem lenTab_all : ∀ i : Fin 256, lenTab[i.val]? = some (UInt8.ofNat (Sort.bitsLen i.val)) ∧ Sort.bitsLen i.val ≤ 8 := by decide +kernel
theorem lenTab_get {i : Nat} (h : i < 256) : lenTab[i]? = some (UInt8.ofNat (Sort.bitsLen i)) := (lenTab_all ⟨i, h⟩).1
theorem bitsLen_le8 {i : Nat} (h : i < 256) : Sort.bitsLen i ≤ 8 := (lenTab_all ⟨i, h⟩).2
theorem bitsLen_byte {x : Nat} (h : 256 ≤ x) : Sort.bitsLen x = 8 + Sort.bitsLen (x / 256) := by
  apply Nat.le_antisymm
  · rw [Sort.bitsLen_le_iff]
    have := Sort.lt_two_pow_bitsLen (x / 256)
    rw [Nat.pow_add]
    omega
  · have h1 : 8 ≤ Sort.bitsLen x := by
      apply Decidable.byContradiction; intro hn
      have : Sort.bitsLen x ≤ 8 := by omega
      rw [Sort.bitsLen_le_iff] at this
      omega
    obtain ⟨k, hk⟩ : ∃ k, Sort.bitsLen x = 8 + k := ⟨Sort.bitsLen x - 8, by omega⟩
    have h2 : x < 2 ^ (8 + k) := (Sort.bitsLen_le_iff x _).1 (by omega)
    rw [hk]
    apply Nat.add_le_add_left
    rw [Sort.bitsLen_le_iff]
    rw [Nat.pow_add] at h2
    omega
theorem wrap8 {x : Nat} (h : x < 256) : IntKind.u8.wrap (x : Int) = x := wrap_byte (by omega) (by omega)
theorem wrap64 {x : Nat} (h : x < 18446744073709551616) : IntKind.u64.wrap (x : Int) = x := by
  simp only [IntKind.wrap, IntKind.signed, IntKind.bits, Bool.false_and, Bool.false_eq_true, if_false]
  omega
theorem fdiv_256 {x : Nat} : shrK .u64 (x : Int) 8 = ((x / 256 : Nat) : Int) := (Int.ofNat_fdiv x 256).symm
theorem call_118 {x : Nat} (h : x < 65536) {H : Heap} : callI tab 82 [.int .u64 x] H = some (.int .i64 (Sort.bitsLen x), H) := by
  refine callI_enter tab_118 (by simp [AF118]) (.inr (by simp)) ?_
  by_cases h8 : x < 256
  · have b := bitsLen_le8 h8
    have e : ((Sort.bitsLen x : Nat) : Int) % 256 = (Sort.bitsLen x : Nat) := by omega
    simp -implicitDefEqProofs (disch := first | omega | with_unfolding_all exact eqR (Eq.refl _)) [nums, -getElem!_pos, -Int.natCast_add, -Int.natCast_mul, -Int.natCast_ediv, AF118, S118_0, S118_1, S118_2, lenTab_eq, lenTab_get, wrap8 h8, e]
  · have h9 : x / 256 < 256 := by omega
    have b := bitsLen_le8 h9
    have e : ((Sort.bitsLen (x / 256) : Nat) : Int) % 256 = (Sort.bitsLen (x / 256) : Nat) := by omega
    have e2 := bitsLen_byte (x := x) (by omega)
    have e3 : IntKind.i64.wrap (8 + ((Sort.bitsLen (x / 256) : Nat) : Int)) = (Sort.bitsLen x : Nat) := by rw [e2, wrap_int] <;> omega
    have e4 : IntKind.u8.wrap ((x / 256 : Nat) : Int) = (x / 256 : Nat) := wrap8 h9
    have e5 : IntKind.i64.wrap 8 = 8 := rfl
    simp -implicitDefEqProofs (disch := first | omega | with_unfolding_all exact eqR (Eq.refl _)) [nums, -getElem!_pos, -Int.natCast_add, -Int.natCast_mul, -Int.natCast_ediv, AF118, S118_0, S118_1, S118_2, lenTab_eq, lenTab_get, fdiv_256, e, e3, e4, e5]
theorem call_101 {x : Nat} (h : x < 65536) {H : Heap} : callI tab 59 [.int .u64 x] H = some (.int .i64 (Sort.bitsLen x), H) := by
  refine callI_enter tab_101 (by simp [AF101]) (.inr (by simp)) ?_
  simp -implicitDefEqProofs (disch := first | omega | with_unfolding_all exact eqR (Eq.refl _)) [nums, -getElem!_pos, -Int.natCast_add, -Int.natCast_mul, -Int.natCast_ediv, AF101, S101_0, call_118 h]
section
variable {g id len lo : Nat} {ex : Bool} {c : Mo → Mo → Int} {s : List Jtm} {k : KF} {Q : AV → Heap → Prop}
theorem load1 {v : AV} : part false 1 [v] 0 = some v := rfl
theorem store1 {H : Heap} {j : Nat} {v w : AV} {rel : Option Nat} : stO H 1 j 0 (.cells [v] rel) (some [w]) = some ((H.kill rel).set j (.cells [w] none)) := rfl
theorem call_138 (hc : CmpM g c) {a b L U j : Nat} {sw : Int} {H : Heap} {d : Array Mo} (hd : H.obj id = .cells (tM.arr d) none) (hj : j < H.next) (hsw : H.obj j = .cells [.int .i64 sw] none) (hb : L ≤ a ∧ a < U ∧ L ≤ b ∧ b < U) (hu : U ≤ len) (hl : len ≤ d.size) (hs : d.size < 2 ^ 40) :
    Res (callI tab 101 [.sl id 0 len lo ex 8, .int .i64 a, .int .i64 b, .ptr j 0, .fn g [] []] H) fun e H' => ∃ (x y : Nat) (s' : Int), e = .tup [.int .i64 x, .int .i64 y] ∧ (L ≤ x ∧ x < U ∧ L ≤ y ∧ y < U) ∧ Wr H H' j (.cells [.int .i64 s'] none) := by
  refine .hide fun Q hQ => .enter tab_138 (by simp [AF138]) (.inl rfl) ?_
  obtain ⟨b1, b2, b3, b4⟩ := hb
  by_cases hlt : c d[b]! d[a]! < 0
  · simp -implicitDefEqProofs (disch := first | omega | with_unfolding_all exact eqR (Eq.refl _)) [nums, -getElem!_pos, -Int.natCast_add, -Int.natCast_mul, -Int.natCast_ediv, AF138, S138_0, hd, hsw, hc _ _, loadM, storeM, storeM2, load1, store1]
    have w : Fx H.begin (H.begin.set j (.cells [.int .i64 (IntKind.i64.wrap (sw + 1))] none)) j (.cells [.int .i64 (IntKind.i64.wrap (sw + 1))] none) := Wr.toFx (Wr.set (H := H.begin) hj)
    obtain ⟨H2, e, w⟩ := w.wrap (H := H) (v := .tup [.int .i64 b, .int .i64 a]) rfl rfl rfl
    rw [e]
    exact .mk (hQ _ _ ⟨_, _, _, rfl, ⟨b3, b4, b1, b2⟩, w⟩)
  · simp -implicitDefEqProofs (disch := first | omega | with_unfolding_all exact eqR (Eq.refl _)) [nums, -getElem!_pos, -Int.natCast_add, -Int.natCast_mul, -Int.natCast_ediv, AF138, S138_0, hd, hsw, hc _ _, loadM, storeM, storeM2, load1, store1]
    try rw [wrap_begin rfl]
    exact .mk (hQ _ _ ⟨a, b, sw, rfl, ⟨b1, b2, b3, b4⟩, .refl hj hsw⟩)
theorem call_128 (hc : CmpM g c) {a b e L U j : Nat} {sw : Int} {H : Heap} {d : Array Mo} (hd : H.obj id = .cells (tM.arr d) none) (hj : j < H.next) (hi : id < H.next) (hij : id ≠ j) (hsw : H.obj j = .cells [.int .i64 sw] none) (hb : (L ≤ a ∧ a < U) ∧ (L ≤ b ∧ b < U) ∧ L ≤ e ∧ e < U) (hu : U ≤ len) (hl : len ≤ d.size) (hs : d.size < 2 ^ 40) :
    Res (callI tab 90 [.sl id 0 len lo ex 8, .int .i64 a, .int .i64 b, .int .i64 e, .ptr j 0, .fn g [] []] H) fun v H' => ∃ (x : Nat) (s' : Int), v = .int .i64 x ∧ (L ≤ x ∧ x < U) ∧ Wr H H' j (.cells [.int .i64 s'] none) := by
  refine .hide fun Q hQ => .enter tab_128 (by simp [AF128]) (.inl rfl) ?_
  obtain ⟨⟨b1, b2⟩, ⟨b3, b4⟩, b5, b6⟩ := hb
  simp -implicitDefEqProofs (disch := first | omega | with_unfolding_all exact eqR (Eq.refl _)) [nums, -getElem!_pos, -Int.natCast_add, -Int.natCast_mul, -Int.natCast_ediv, AF128]
  refine .call (call_138 (H := H.begin) (len := len) (lo := lo) (ex := ex) hc hd hj hsw ⟨b1, b2, b3, b4⟩ hu hl hs) fun e1 H1 ⟨x1, y1, s1, he, ⟨c1, c2, c3, c4⟩, w1⟩ => ?_
  subst he
  simp -implicitDefEqProofs (disch := first | omega | with_unfolding_all exact eqR (Eq.refl _)) [nums, -getElem!_pos, -Int.natCast_add, -Int.natCast_mul, -Int.natCast_ediv]
  refine .call (call_138 (len := len) (lo := lo) (ex := ex) hc ((w1.ne hi hij).trans hd) (by rw [w1.nxt]; exact hj) w1.at ⟨c3, c4, b5, b6⟩ hu hl hs) fun e2 H2 ⟨x2, y2, s2, he, ⟨d1, d2, d3, d4⟩, w2⟩ => ?_
  subst he
  have w12 := w1.trans w2
  simp -implicitDefEqProofs (disch := first | omega | with_unfolding_all exact eqR (Eq.refl _)) [nums, -getElem!_pos, -Int.natCast_add, -Int.natCast_mul, -Int.natCast_ediv]
  refine .call (call_138 (len := len) (lo := lo) (ex := ex) hc ((w12.ne hi hij).trans hd) (by rw [w12.nxt]; exact hj) w12.at ⟨c1, c2, d1, d2⟩ hu hl hs) fun e3 H3 ⟨x3, y3, s3, he, ⟨f1, f2, f3, f4⟩, w3⟩ => ?_
  subst he
  have w := w12.trans w3
  simp -implicitDefEqProofs (disch := first | omega | with_unfolding_all exact eqR (Eq.refl _)) [nums, -getElem!_pos, -Int.natCast_add, -Int.natCast_mul, -Int.natCast_ediv]
  obtain ⟨H2, e, w⟩ := w.toFx.wrap (H := H) (v := .int .i64 y3) rfl rfl rfl
  rw [e]
  exact .mk (hQ _ _ ⟨_, _, rfl, ⟨f3, f4⟩, w⟩)
theorem call_127 (hc : CmpM g c) {a L U j : Nat} {sw : Int} {H : Heap} {d : Array Mo} (hd : H.obj id = .cells (tM.arr d) none) (hj : j < H.next) (hi : id < H.next) (hij : id ≠ j) (hsw : H.obj j = .cells [.int .i64 sw] none) (hb : L + 1 ≤ a ∧ a + 1 < U) (hu : U ≤ len) (hl : len ≤ d.size) (hs : d.size < 2 ^ 40) :
    Res (callI tab 89 [.sl id 0 len lo ex 8, .int .i64 a, .ptr j 0, .fn g [] []] H) fun v H' => ∃ (x : Nat) (s' : Int), v = .int .i64 x ∧ (L ≤ x ∧ x < U) ∧ Wr H H' j (.cells [.int .i64 s'] none) := by
  refine .hide fun Q hQ => .enter tab_127 (by simp [AF127]) (.inl rfl) ?_
  simp -implicitDefEqProofs (disch := first | omega | with_unfolding_all exact eqR (Eq.refl _)) [nums, -getElem!_pos, -Int.natCast_add, -Int.natCast_mul, -Int.natCast_ediv, AF127]
  refine .call (call_128 (H := H.begin) (len := len) (lo := lo) (ex := ex) (L := L) (U := U) hc hd hj hi hij hsw ⟨by omega, by omega, by omega, by omega⟩ hu hl hs) fun e1 H1 ⟨x1, s1, he, c1, w1⟩ => ?_
  subst he
  simp -implicitDefEqProofs (disch := first | omega | with_unfolding_all exact eqR (Eq.refl _)) [nums, -getElem!_pos, -Int.natCast_add, -Int.natCast_mul, -Int.natCast_ediv]
  obtain ⟨H2, e, w⟩ := w1.toFx.wrap (H := H) (v := .int .i64 x1) rfl rfl rfl
  rw [e]
  exact .mk (hQ _ _ ⟨_, _, rfl, c1, w⟩)
theorem call_143 {a b L U j : Nat} {sw : Int} {H : Heap} {d : Array Int} (hd : H.obj id = .cells (tB.arr d) none) (hj : j < H.next) (hsw : H.obj j = .cells [.int .i64 sw] none) (hb : L ≤ a ∧ a < U ∧ L ≤ b ∧ b < U) (hu : U ≤ len) (hl : len ≤ d.size) (hs : d.size < 2 ^ 40) :
    Res (callI tab 106 [.sl id 0 len lo ex 1, .int .i64 a, .int .i64 b, .ptr j 0] H) fun e H' => ∃ (x y : Nat) (s' : Int), e = .tup [.int .i64 x, .int .i64 y] ∧ (L ≤ x ∧ x < U ∧ L ≤ y ∧ y < U) ∧ Wr H H' j (.cells [.int .i64 s'] none) := by
  refine .hide fun Q hQ => .enter tab_143 (by simp [AF143]) (.inl rfl) ?_
  obtain ⟨b1, b2, b3, b4⟩ := hb
  by_cases hlt : d[b]! < d[a]!
  · simp -implicitDefEqProofs (disch := first | omega | with_unfolding_all exact eqR (Eq.refl _)) [nums, -getElem!_pos, -Int.natCast_add, -Int.natCast_mul, -Int.natCast_ediv, AF143, S143_0, hd, hsw, call_135, loadB, storeB, storeB2, load1, store1]
    have w : Fx H.begin (H.begin.set j (.cells [.int .i64 (IntKind.i64.wrap (sw + 1))] none)) j (.cells [.int .i64 (IntKind.i64.wrap (sw + 1))] none) := Wr.toFx (Wr.set (H := H.begin) hj)
    obtain ⟨H2, e, w⟩ := w.wrap (H := H) (v := .tup [.int .i64 b, .int .i64 a]) rfl rfl rfl
    rw [e]
    exact .mk (hQ _ _ ⟨_, _, _, rfl, ⟨b3, b4, b1, b2⟩, w⟩)
  · simp -implicitDefEqProofs (disch := first | omega | with_unfolding_all exact eqR (Eq.refl _)) [nums, -getElem!_pos, -Int.natCast_add, -Int.natCast_mul, -Int.natCast_ediv, AF143, S143_0, hd, hsw, call_135, loadB, storeB, storeB2, load1, store1]
    try rw [wrap_begin rfl]
    exact .mk (hQ _ _ ⟨a, b, sw, rfl, ⟨b1, b2, b3, b4⟩, .refl hj hsw⟩)
theorem call_141 {a b e L U j : Nat} {sw : Int} {H : Heap} {d : Array Int} (hd : H.obj id = .cells (tB.arr d) none) (hj : j < H.next) (hi : id < H.next) (hij : id ≠ j) (hsw : H.obj j = .cells [.int .i64 sw] none) (hb : (L ≤ a ∧ a < U) ∧ (L ≤ b ∧ b < U) ∧ L ≤ e ∧ e < U) (hu : U ≤ len) (hl : len ≤ d.size) (hs : d.size < 2 ^ 40) :
    Res (callI tab 104 [.sl id 0 len lo ex 1, .int .i64 a, .int .i64 b, .int .i64 e, .ptr j 0] H) fun v H' => ∃ (x : Nat) (s' : Int), v = .int .i64 x ∧ (L ≤ x ∧ x < U) ∧ Wr H H' j (.cells [.int .i64 s'] none) := by
  refine .hide fun Q hQ => .enter tab_141 (by simp [AF141]) (.inl rfl) ?_
  obtain ⟨⟨b1, b2⟩, ⟨b3, b4⟩, b5, b6⟩ := hb
  simp -implicitDefEqProofs (disch := first | omega | with_unfolding_all exact eqR (Eq.refl _)) [nums, -getElem!_pos, -Int.natCast_add, -Int.natCast_mul, -Int.natCast_ediv, AF141]
  refine .call (call_143 (H := H.begin) (len := len) (lo := lo) (ex := ex) hd hj hsw ⟨b1, b2, b3, b4⟩ hu hl hs) fun e1 H1 ⟨x1, y1, s1, he, ⟨c1, c2, c3, c4⟩, w1⟩ => ?_
  subst he
  simp -implicitDefEqProofs (disch := first | omega | with_unfolding_all exact eqR (Eq.refl _)) [nums, -getElem!_pos, -Int.natCast_add, -Int.natCast_mul, -Int.natCast_ediv]
  refine .call (call_143 (len := len) (lo := lo) (ex := ex) ((w1.ne hi hij).trans hd) (by rw [w1.nxt]; exact hj) w1.at ⟨c3, c4, b5, b6⟩ hu hl hs) fun e2 H2 ⟨x2, y2, s2, he, ⟨d1, d2, d3, d4⟩, w2⟩ => ?_
  subst he
  have w12 := w1.trans w2
  simp -implicitDefEqProofs (disch := first | omega | with_unfolding_all exact eqR (Eq.refl _)) [nums, -getElem!_pos, -Int.natCast_add, -Int.natCast_mul, -Int.natCast_ediv]
  refine .call (call_143 (len := len) (lo := lo) (ex := ex) ((w12.ne hi hij).trans hd) (by rw [w12.nxt]; exact hj) w12.at ⟨c1, c2, d1, d2⟩ hu hl hs) fun e3 H3 ⟨x3, y3, s3, he, ⟨f1, f2, f3, f4⟩, w3⟩ => ?_
  subst he
  have w := w12.trans w3
  simp -implicitDefEqProofs (disch := first | omega | with_unfolding_all exact eqR (Eq.refl _)) [nums, -getElem!_pos, -Int.natCast_add, -Int.natCast_mul, -Int.natCast_ediv]
  obtain ⟨H2, e, w⟩ := w.toFx.wrap (H := H) (v := .int .i64 y3) rfl rfl rfl
  rw [e]
  exact .mk (hQ _ _ ⟨_, _, rfl, ⟨f3, f4⟩, w⟩)
theorem call_140 {a L U j : Nat} {sw : Int} {H : Heap} {d : Array Int} (hd : H.obj id = .cells (tB.arr d) none) (hj : j < H.next) (hi : id < H.next) (hij : id ≠ j) (hsw : H.obj j = .cells [.int .i64 sw] none) (hb : L + 1 ≤ a ∧ a + 1 < U) (hu : U ≤ len) (hl : len ≤ d.size) (hs : d.size < 2 ^ 40) :
    Res (callI tab 103 [.sl id 0 len lo ex 1, .int .i64 a, .ptr j 0] H) fun v H' => ∃ (x : Nat) (s' : Int), v = .int .i64 x ∧ (L ≤ x ∧ x < U) ∧ Wr H H' j (.cells [.int .i64 s'] none) := by
  refine .hide fun Q hQ => .enter tab_140 (by simp [AF140]) (.inl rfl) ?_
  simp -implicitDefEqProofs (disch := first | omega | with_unfolding_all exact eqR (Eq.refl _)) [nums, -getElem!_pos, -Int.natCast_add, -Int.natCast_mul, -Int.natCast_ediv, AF140]
  refine .call (call_141 (H := H.begin) (len := len) (lo := lo) (ex := ex) (L := L) (U := U) hd hj hi hij hsw ⟨by omega, by omega, by omega, by omega⟩ hu hl hs) fun e1 H1 ⟨x1, s1, he, c1, w1⟩ => ?_
  subst he
  simp -implicitDefEqProofs (disch := first | omega | with_unfolding_all exact eqR (Eq.refl _)) [nums, -getElem!_pos, -Int.natCast_add, -Int.natCast_mul, -Int.natCast_ediv]
  obtain ⟨H2, e, w⟩ := w1.toFx.wrap (H := H) (v := .int .i64 x1) rfl rfl rfl
  rw [e]
  exact .mk (hQ _ _ ⟨_, _, rfl, c1, w⟩)
end
end Go.Mach.Ytl
