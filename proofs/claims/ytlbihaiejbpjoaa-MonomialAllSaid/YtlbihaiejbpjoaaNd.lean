/-
  Monomials and bytes as elements; sorting by insertion. By an AI agent.
-/
import Derived.Test.YtlbihaiejbpjoaaNc
import Derived.Test.YtlbihaiejbpjoaaCb
import Derived.Sort.AssemblyPlain
set_option linter.unusedSimpArgs false
set_option linter.unusedVariables false
set_option maxRecDepth 100000
namespace Go.Mach.Ytl
open Go.Mach

instance : Inhabited Mo := ⟨Mo.zero⟩
theorem part_mid (e : Nat) (p c q : List AV) (h : c.length = e) : part true e (p ++ (c ++ q)) p.length = some (.agg c) := by
  subst h
  simp only [part, if_true]
  rw [if_pos (by simp)]
  simp
def tM : Ty Mo where
  e := 8
  agg := true
  val := mono
  cells := Mo.cells
  len _ := rfl
  pos := by decide
  flat _ := rfl
  one a p q := part_mid 8 p a.cells q rfl
  nn a b n := rfl
  pure a := rfl
  cell a := rfl
def tB : Ty Int where
  e := 1
  agg := false
  val x := .int .u8 x
  cells x := [.int .u8 x]
  len _ := rfl
  pos := by decide
  flat _ := rfl
  one a p q := by simp [part]
  nn a b n := rfl
  pure a := rfl
  cell a := rfl

theorem loadM {d : Array Mo} {i : Nat} (h : i < d.size) : part true 8 (tM.arr d) (i * 8) = some (mono d[i]!) := tM.arr_part d i h
theorem loadB {d : Array Int} {i : Nat} (h : i < d.size) : part false 1 (tB.arr d) i = some (.int .u8 d[i]!) := by
  have := tB.arr_part d i h
  rw [show i * tB.e = i from Nat.mul_one i] at this
  exact this
theorem storeM {H : Heap} {d : Array Mo} {rel : Option Nat} {id i : Nat} {a : Mo} (h : i < d.size) : stO H 8 id (i * 8) (.cells (tM.arr d) rel) (some a.cells) = some ((H.kill rel).set id (.cells (tM.arr (d.setIfInBounds i a)) none)) := by
  have l : (tM.arr d).length = d.size * 8 := tM.arr_length d
  rw [stO_some, if_pos ⟨rfl, by rw [l]; omega⟩]
  have := tM.arr_put d i a h
  simp only [tM] at this ⊢
  rw [this]
theorem storeM2 {H : Heap} {d : Array Mo} {rel : Option Nat} {id i j : Nat} {a x : Mo} (h : i < d.size) : stO H 8 id (i * 8) (.cells (tM.arr (d.setIfInBounds j x)) rel) (some a.cells) = some ((H.kill rel).set id (.cells (tM.arr ((d.setIfInBounds j x).setIfInBounds i a)) none)) := storeM (by simpa using h)
theorem storeB {H : Heap} {d : Array Int} {rel : Option Nat} {id i : Nat} {a : Int} (h : i < d.size) : stO H 1 id i (.cells (tB.arr d) rel) (some [.int .u8 a]) = some ((H.kill rel).set id (.cells (tB.arr (d.setIfInBounds i a)) none)) := by
  have l : (tB.arr d).length = d.size * 1 := tB.arr_length d
  rw [stO_some, if_pos ⟨rfl, by rw [l]; omega⟩]
  have := tB.arr_put d i a h
  rw [show i * tB.e = i from Nat.mul_one i] at this
  have e : tB.cells a = [.int .u8 a] := rfl
  rw [e] at this
  rw [this]

theorem storeB2 {H : Heap} {d : Array Int} {rel : Option Nat} {id i j : Nat} {a x : Int} (h : i < d.size) : stO H 1 id i (.cells (tB.arr (d.setIfInBounds j x)) rel) (some [.int .u8 a]) = some ((H.kill rel).set id (.cells (tB.arr ((d.setIfInBounds j x).setIfInBounds i a)) none)) := storeB (by simpa using h)
/-- The value of a function that compares. -/
def CmpM (g : Nat) (c : Mo → Mo → Int) : Prop := ∀ a b H, callI tab g [mono a, mono b] H = some (.int .i64 (c a b), H)
def ltc (c : Mo → Mo → Int) (a b : Mo) : Bool := decide (c a b < 0)
def ltB (a b : Int) : Bool := decide (a < b)
theorem call_142 {x : Int} {H : Heap} : callI tab 142 [.int .u8 x] H = some (.bool false, H) := by
  refine callI_of (n := 2) ?_
  rw [call_enter tab_142 (by simp [AF142]) (.inr (by simp))]
  simp -implicitDefEqProofs [AF142]
theorem call_135 {x y : Int} {H : Heap} : callI tab 135 [.int .u8 x, .int .u8 y] H = some (.bool (decide (x < y)), H) := by
  refine callI_enter tab_135 (by simp [AF135]) (.inr (by simp)) ?_
  simp -implicitDefEqProofs (disch := first | omega | with_unfolding_all exact eqR (Eq.refl _)) [nums, -getElem!_pos, -Int.natCast_add, -Int.natCast_mul, -Int.natCast_ediv, AF135, call_142]

section
variable {g id len lo : Nat} {ex : Bool} {c : Mo → Mo → Int} {s : List Jtm} {k : KF} {Q : AV → Heap → Prop}


theorem l109_1 (hc : CmpM g c) (a : Nat) : ∀ (j : Nat) (σ : Sig) (H : Heap) (d : Array Mo), σ 0 = .sl id 0 len lo ex 8 → σ 1 = .int .i64 (a : Nat) → σ 3 = .fn g [] [] → σ 9 = .int .i64 (j : Nat) →
    id < H.next → H.obj id = .cells (tM.arr d) none → j < len → len ≤ d.size → d.size < 2 ^ 40 →
    (∀ σ' H', σ' 0 = .sl id 0 len lo ex 8 → σ' 1 = .int .i64 (a : Nat) → σ' 3 = .fn g [] [] → σ' 2 = σ 2 → σ' 8 = σ 8 → Wr H H' id (.cells (tM.arr (Sort.insInner (ltc c) a j d)) none) → Res (ai (callI tab) s k .nrm σ' H') Q) →
    Res (li (callI tab) L109_1 (.inBlock 2 :: s) k σ H) Q := by
  intro j
  induction j with
  | zero =>
    intro σ H d h0 h1 h3 h9 hid hd hj hl hs hQ
    obtain ⟨il, hil⟩ : ∃ x, x = Jtm.inLoop L109_1 := ⟨_, rfl⟩; rw [li_eq' il hil]
    simp -implicitDefEqProofs (disch := first | omega | with_unfolding_all exact eqR (Eq.refl _)) [nums, -getElem!_pos, -Int.natCast_add, -Int.natCast_mul, -Int.natCast_ediv, L109_1, S109_0, h0, h1, h3, h9, hd]
    subst hil
    try simp -implicitDefEqProofs (disch := first | omega | with_unfolding_all exact eqR (Eq.refl _)) [nums, -getElem!_pos, -Int.natCast_add, -Int.natCast_mul, -Int.natCast_ediv]
    refine hQ _ _ ?_ ?_ ?_ ?_ ?_ (.refl hid hd) <;> simp [h0, h1, h3, h9]
  | succ j ih =>
    intro σ H d h0 h1 h3 h9 hid hd hj hl hs hQ
    by_cases ha : a < j + 1
    · by_cases hlt : c d[j + 1]! d[j]! < 0
      · have e : Sort.insInner (ltc c) a (j + 1) d = Sort.insInner (ltc c) a j (Sort.swp d (j + 1) j) := by
          rw [Sort.insInner, if_pos (by simp [ha, ltc, hlt])]
        rw [e] at hQ
        obtain ⟨il, hil⟩ : ∃ x, x = Jtm.inLoop L109_1 := ⟨_, rfl⟩; rw [li_eq' il hil]
        simp -implicitDefEqProofs (disch := first | omega | with_unfolding_all exact eqR (Eq.refl _)) [nums, -getElem!_pos, -Int.natCast_add, -Int.natCast_mul, -Int.natCast_ediv, L109_1, S109_0, h0, h1, h3, h9, hd, hc _ _, loadM, storeM, storeM2]
        subst hil
        try simp -implicitDefEqProofs (disch := first | omega | with_unfolding_all exact eqR (Eq.refl _)) [nums, -getElem!_pos, -Int.natCast_add, -Int.natCast_mul, -Int.natCast_ediv]
        refine ih _ _ (Sort.swp d (j + 1) j) ?_ ?_ ?_ ?_ hid ?_ (by omega) (by simp [Sort.swp]; omega) (by simp [Sort.swp]; omega) fun σ' H' q0 q1 q3 q2 q8 hw => hQ σ' H' q0 q1 q3 (by rw [q2]; simp) (by rw [q8]; simp) (.trans (.trans (.set hid) (.set hid)) hw)
        all_goals simp [h0, h1, h3, h9, Sort.swp]
      · have e : Sort.insInner (ltc c) a (j + 1) d = d := by
          rw [Sort.insInner, if_neg (by simp [ltc, hlt])]
        rw [e] at hQ
        obtain ⟨il, hil⟩ : ∃ x, x = Jtm.inLoop L109_1 := ⟨_, rfl⟩; rw [li_eq' il hil]
        simp -implicitDefEqProofs (disch := first | omega | with_unfolding_all exact eqR (Eq.refl _)) [nums, -getElem!_pos, -Int.natCast_add, -Int.natCast_mul, -Int.natCast_ediv, L109_1, S109_0, h0, h1, h3, h9, hd, hc _ _, loadM, storeM, storeM2]
        subst hil
        try simp -implicitDefEqProofs (disch := first | omega | with_unfolding_all exact eqR (Eq.refl _)) [nums, -getElem!_pos, -Int.natCast_add, -Int.natCast_mul, -Int.natCast_ediv]
        refine hQ _ _ ?_ ?_ ?_ ?_ ?_ (.refl hid hd) <;> simp [h0, h1, h3, h9]
    · have e : Sort.insInner (ltc c) a (j + 1) d = d := by
        rw [Sort.insInner, if_neg (by simp [ha])]
      rw [e] at hQ
      obtain ⟨il, hil⟩ : ∃ x, x = Jtm.inLoop L109_1 := ⟨_, rfl⟩; rw [li_eq' il hil]
      simp -implicitDefEqProofs (disch := first | omega | with_unfolding_all exact eqR (Eq.refl _)) [nums, -getElem!_pos, -Int.natCast_add, -Int.natCast_mul, -Int.natCast_ediv, L109_1, S109_0, h0, h1, h3, h9, hd, hc _ _, loadM, storeM, storeM2]
      subst hil
      try simp -implicitDefEqProofs (disch := first | omega | with_unfolding_all exact eqR (Eq.refl _)) [nums, -getElem!_pos, -Int.natCast_add, -Int.natCast_mul, -Int.natCast_ediv]
      refine hQ _ _ ?_ ?_ ?_ ?_ ?_ (.refl hid hd) <;> simp [h0, h1, h3, h9]


theorem insInner_size {α : Type} [Inhabited α] (lt : α → α → Bool) (a j : Nat) (d : Array α) : (Sort.insInner lt a j d).size = d.size := by
  induction j generalizing d with
  | zero => rfl
  | succ j ih => rw [Sort.insInner]; split <;> simp [ih, Sort.swp]

theorem l109_4 (hc : CmpM g c) (a b : Nat) : ∀ (m i : Nat) (σ : Sig) (H : Heap) (d : Array Mo), b - i = m → σ 0 = .sl id 0 len lo ex 8 → σ 1 = .int .i64 (a : Nat) → σ 2 = .int .i64 (b : Nat) → σ 3 = .fn g [] [] → σ 8 = .int .i64 (i : Nat) →
    id < H.next → H.obj id = .cells (tM.arr d) none → b ≤ len → len ≤ d.size → d.size < 2 ^ 40 →
    (∀ σ' H', Wr H H' id (.cells (tM.arr (Sort.insOuter (ltc c) a b i d)) none) → Res (ai (callI tab) s k .nrm σ' H') Q) →
    Res (li (callI tab) L109_4 (.inBlock 0 :: s) k σ H) Q := by
  intro m
  induction m with
  | zero =>
    intro i σ H d hm h0 h1 h2 h3 h8 hid hd hb hl hs hQ
    have e : Sort.insOuter (ltc c) a b i d = d := by rw [Sort.insOuter, if_neg (by omega)]
    rw [e] at hQ
    obtain ⟨il, hil⟩ : ∃ x, x = Jtm.inLoop L109_4 := ⟨_, rfl⟩; rw [li_eq' il hil]
    simp -implicitDefEqProofs (disch := first | omega | with_unfolding_all exact eqR (Eq.refl _)) [nums, -getElem!_pos, -Int.natCast_add, -Int.natCast_mul, -Int.natCast_ediv, L109_4, h0, h1, h2, h3, h8, hd]
    subst hil
    try simp -implicitDefEqProofs (disch := first | omega | with_unfolding_all exact eqR (Eq.refl _)) [nums, -getElem!_pos, -Int.natCast_add, -Int.natCast_mul, -Int.natCast_ediv]
    exact hQ _ _ (.refl hid hd)
  | succ m ih =>
    intro i σ H d hm h0 h1 h2 h3 h8 hid hd hb hl hs hQ
    have e : Sort.insOuter (ltc c) a b i d = Sort.insOuter (ltc c) a b (i + 1) (Sort.insInner (ltc c) a i d) := by rw [Sort.insOuter, if_pos (by omega)]
    rw [e] at hQ
    obtain ⟨il, hil⟩ : ∃ x, x = Jtm.inLoop L109_4 := ⟨_, rfl⟩; rw [li_eq' il hil]
    simp -implicitDefEqProofs (disch := first | omega | with_unfolding_all exact eqR (Eq.refl _)) [nums, -getElem!_pos, -Int.natCast_add, -Int.natCast_mul, -Int.natCast_ediv, L109_4, S109_3, h0, h1, h2, h3, h8, hd]
    subst hil
    try simp -implicitDefEqProofs (disch := first | omega | with_unfolding_all exact eqR (Eq.refl _)) [nums, -getElem!_pos, -Int.natCast_add, -Int.natCast_mul, -Int.natCast_ediv]
    refine l109_1 (lo := lo) (ex := ex) hc a i _ _ d ?_ ?_ ?_ ?_ hid hd (by omega) hl hs fun σ' H' q0 q1 q3 q2 q8 hw => ?_
    any_goals (first | (simp [h0, h1, h2, h3, h8]; done) | skip)
    have q2' : σ' 2 = .int .i64 b := by rw [q2]; simp [h0, h1, h2, h3, h8]
    have q8' : σ' 8 = .int .i64 i := by rw [q8]; simp [h0, h1, h2, h3, h8]
    simp -implicitDefEqProofs (disch := first | omega | with_unfolding_all exact eqR (Eq.refl _)) [nums, -getElem!_pos, -Int.natCast_add, -Int.natCast_mul, -Int.natCast_ediv, S109_2, q2', q8']
    refine ih (i + 1) _ _ (Sort.insInner (ltc c) a i d) (by omega) ?_ ?_ ?_ ?_ ?_ (by rw [hw.nxt]; exact hid) hw.at hb (by rw [insInner_size]; exact hl) (by rw [insInner_size]; exact hs) fun σ'' H'' hw' => hQ _ _ (hw.trans hw')
    all_goals simp [q0, q1, q3, q2', q8']

theorem call_109 (hc : CmpM g c) {a b : Nat} {H : Heap} {d : Array Mo} (hid : id < H.next) (hd : H.obj id = .cells (tM.arr d) none) (hb : b ≤ len) (ha : a ≤ b) (hl : len ≤ d.size) (hs : d.size < 2 ^ 40) :
    Res (callI tab 109 [.sl id 0 len lo ex 8, .int .i64 a, .int .i64 b, .fn g [] []] H) fun e H' => e = .tup [] ∧ Wr H H' id (.cells (tM.arr (Sort.insertionSort (ltc c) d a b)) none) := by
  refine .enter tab_109 (by simp [AF109]) (.inl rfl) ?_
  simp -implicitDefEqProofs (disch := first | omega | with_unfolding_all exact eqR (Eq.refl _)) [nums, -getElem!_pos, -Int.natCast_add, -Int.natCast_mul, -Int.natCast_ediv, AF109]
  refine l109_4 (lo := lo) (ex := ex) hc a b _ (a + 1) _ _ d rfl ?_ ?_ ?_ ?_ ?_ hid hd hb hl hs fun σ' H' hw => ?_
  any_goals (first | (simp; done) | skip)
  simp -implicitDefEqProofs (disch := first | omega | with_unfolding_all exact eqR (Eq.refl _)) [nums, -getElem!_pos, -Int.natCast_add, -Int.natCast_mul, -Int.natCast_ediv]
  obtain ⟨H2, e, w⟩ := hw.toFx.wrapA (H := H) (v := .tup []) rfl
  rw [e]
  exact .mk ⟨rfl, w⟩


theorem l129_1 (a : Nat) : ∀ (j : Nat) (σ : Sig) (H : Heap) (d : Array Int), σ 0 = .sl id 0 len lo ex 1 → σ 1 = .int .i64 (a : Nat) → σ 7 = .int .i64 (j : Nat) →
    id < H.next → H.obj id = .cells (tB.arr d) none → j < len → len ≤ d.size → d.size < 2 ^ 40 →
    (∀ σ' H', σ' 0 = .sl id 0 len lo ex 1 → σ' 1 = .int .i64 (a : Nat) → σ' 2 = σ 2 → σ' 6 = σ 6 → Wr H H' id (.cells (tB.arr (Sort.insInner ltB a j d)) none) → Res (ai (callI tab) s k .nrm σ' H') Q) →
    Res (li (callI tab) L129_1 (.inBlock 2 :: s) k σ H) Q := by
  intro j
  induction j with
  | zero =>
    intro σ H d h0 h1 h9 hid hd hj hl hs hQ
    obtain ⟨il, hil⟩ : ∃ x, x = Jtm.inLoop L129_1 := ⟨_, rfl⟩; rw [li_eq' il hil]
    simp -implicitDefEqProofs (disch := first | omega | with_unfolding_all exact eqR (Eq.refl _)) [nums, -getElem!_pos, -Int.natCast_add, -Int.natCast_mul, -Int.natCast_ediv, L129_1, S129_0, h0, h1, h9, hd]
    subst hil
    try simp -implicitDefEqProofs (disch := first | omega | with_unfolding_all exact eqR (Eq.refl _)) [nums, -getElem!_pos, -Int.natCast_add, -Int.natCast_mul, -Int.natCast_ediv]
    refine hQ _ _ ?_ ?_ ?_ ?_ (.refl hid hd) <;> simp [h0, h1, h9]
  | succ j ih =>
    intro σ H d h0 h1 h9 hid hd hj hl hs hQ
    by_cases ha : a < j + 1
    · by_cases hlt : d[j + 1]! < d[j]!
      · have e : Sort.insInner ltB a (j + 1) d = Sort.insInner ltB a j (Sort.swp d (j + 1) j) := by
          rw [Sort.insInner, if_pos (by simp [ha, ltB, hlt])]
        rw [e] at hQ
        obtain ⟨il, hil⟩ : ∃ x, x = Jtm.inLoop L129_1 := ⟨_, rfl⟩; rw [li_eq' il hil]
        simp -implicitDefEqProofs (disch := first | omega | with_unfolding_all exact eqR (Eq.refl _)) [nums, -getElem!_pos, -Int.natCast_add, -Int.natCast_mul, -Int.natCast_ediv, L129_1, S129_0, h0, h1, h9, hd, call_135, loadB, storeB, storeB2]
        subst hil
        try simp -implicitDefEqProofs (disch := first | omega | with_unfolding_all exact eqR (Eq.refl _)) [nums, -getElem!_pos, -Int.natCast_add, -Int.natCast_mul, -Int.natCast_ediv]
        refine ih _ _ (Sort.swp d (j + 1) j) ?_ ?_ ?_ hid ?_ (by omega) (by simp [Sort.swp]; omega) (by simp [Sort.swp]; omega) fun σ' H' q0 q1 q2 q8 hw => hQ σ' H' q0 q1 (by rw [q2]; simp) (by rw [q8]; simp) (.trans (.trans (.set hid) (.set hid)) hw)
        all_goals simp [h0, h1, h9, Sort.swp]
      · have e : Sort.insInner ltB a (j + 1) d = d := by
          rw [Sort.insInner, if_neg (by simp [ltB, hlt])]
        rw [e] at hQ
        obtain ⟨il, hil⟩ : ∃ x, x = Jtm.inLoop L129_1 := ⟨_, rfl⟩; rw [li_eq' il hil]
        simp -implicitDefEqProofs (disch := first | omega | with_unfolding_all exact eqR (Eq.refl _)) [nums, -getElem!_pos, -Int.natCast_add, -Int.natCast_mul, -Int.natCast_ediv, L129_1, S129_0, h0, h1, h9, hd, call_135, loadB, storeB, storeB2]
        subst hil
        try simp -implicitDefEqProofs (disch := first | omega | with_unfolding_all exact eqR (Eq.refl _)) [nums, -getElem!_pos, -Int.natCast_add, -Int.natCast_mul, -Int.natCast_ediv]
        refine hQ _ _ ?_ ?_ ?_ ?_ (.refl hid hd) <;> simp [h0, h1, h9]
    · have e : Sort.insInner ltB a (j + 1) d = d := by
        rw [Sort.insInner, if_neg (by simp [ha])]
      rw [e] at hQ
      obtain ⟨il, hil⟩ : ∃ x, x = Jtm.inLoop L129_1 := ⟨_, rfl⟩; rw [li_eq' il hil]
      simp -implicitDefEqProofs (disch := first | omega | with_unfolding_all exact eqR (Eq.refl _)) [nums, -getElem!_pos, -Int.natCast_add, -Int.natCast_mul, -Int.natCast_ediv, L129_1, S129_0, h0, h1, h9, hd, call_135, loadB, storeB, storeB2]
      subst hil
      try simp -implicitDefEqProofs (disch := first | omega | with_unfolding_all exact eqR (Eq.refl _)) [nums, -getElem!_pos, -Int.natCast_add, -Int.natCast_mul, -Int.natCast_ediv]
      refine hQ _ _ ?_ ?_ ?_ ?_ (.refl hid hd) <;> simp [h0, h1, h9]



theorem l129_4 (a b : Nat) : ∀ (m i : Nat) (σ : Sig) (H : Heap) (d : Array Int), b - i = m → σ 0 = .sl id 0 len lo ex 1 → σ 1 = .int .i64 (a : Nat) → σ 2 = .int .i64 (b : Nat) → σ 6 = .int .i64 (i : Nat) →
    id < H.next → H.obj id = .cells (tB.arr d) none → b ≤ len → len ≤ d.size → d.size < 2 ^ 40 →
    (∀ σ' H', Wr H H' id (.cells (tB.arr (Sort.insOuter ltB a b i d)) none) → Res (ai (callI tab) s k .nrm σ' H') Q) →
    Res (li (callI tab) L129_4 (.inBlock 0 :: s) k σ H) Q := by
  intro m
  induction m with
  | zero =>
    intro i σ H d hm h0 h1 h2 h8 hid hd hb hl hs hQ
    have e : Sort.insOuter ltB a b i d = d := by rw [Sort.insOuter, if_neg (by omega)]
    rw [e] at hQ
    obtain ⟨il, hil⟩ : ∃ x, x = Jtm.inLoop L129_4 := ⟨_, rfl⟩; rw [li_eq' il hil]
    simp -implicitDefEqProofs (disch := first | omega | with_unfolding_all exact eqR (Eq.refl _)) [nums, -getElem!_pos, -Int.natCast_add, -Int.natCast_mul, -Int.natCast_ediv, L129_4, h0, h1, h2, h8, hd]
    subst hil
    try simp -implicitDefEqProofs (disch := first | omega | with_unfolding_all exact eqR (Eq.refl _)) [nums, -getElem!_pos, -Int.natCast_add, -Int.natCast_mul, -Int.natCast_ediv]
    exact hQ _ _ (.refl hid hd)
  | succ m ih =>
    intro i σ H d hm h0 h1 h2 h8 hid hd hb hl hs hQ
    have e : Sort.insOuter ltB a b i d = Sort.insOuter ltB a b (i + 1) (Sort.insInner ltB a i d) := by rw [Sort.insOuter, if_pos (by omega)]
    rw [e] at hQ
    obtain ⟨il, hil⟩ : ∃ x, x = Jtm.inLoop L129_4 := ⟨_, rfl⟩; rw [li_eq' il hil]
    simp -implicitDefEqProofs (disch := first | omega | with_unfolding_all exact eqR (Eq.refl _)) [nums, -getElem!_pos, -Int.natCast_add, -Int.natCast_mul, -Int.natCast_ediv, L129_4, S129_3, h0, h1, h2, h8, hd]
    subst hil
    try simp -implicitDefEqProofs (disch := first | omega | with_unfolding_all exact eqR (Eq.refl _)) [nums, -getElem!_pos, -Int.natCast_add, -Int.natCast_mul, -Int.natCast_ediv]
    refine l129_1 (lo := lo) (ex := ex) a i _ _ d ?_ ?_ ?_ hid hd (by omega) hl hs fun σ' H' q0 q1 q2 q8 hw => ?_
    any_goals (first | (simp [h0, h1, h2, h8]; done) | skip)
    have q2' : σ' 2 = .int .i64 b := by rw [q2]; simp [h0, h1, h2, h8]
    have q8' : σ' 6 = .int .i64 i := by rw [q8]; simp [h0, h1, h2, h8]
    simp -implicitDefEqProofs (disch := first | omega | with_unfolding_all exact eqR (Eq.refl _)) [nums, -getElem!_pos, -Int.natCast_add, -Int.natCast_mul, -Int.natCast_ediv, S129_2, q2', q8']
    refine ih (i + 1) _ _ (Sort.insInner ltB a i d) (by omega) ?_ ?_ ?_ ?_ (by rw [hw.nxt]; exact hid) hw.at hb (by rw [insInner_size]; exact hl) (by rw [insInner_size]; exact hs) fun σ'' H'' hw' => hQ _ _ (hw.trans hw')
    all_goals simp [q0, q1, q2', q8']

theorem call_129 {a b : Nat} {H : Heap} {d : Array Int} (hid : id < H.next) (hd : H.obj id = .cells (tB.arr d) none) (hb : b ≤ len) (ha : a ≤ b) (hl : len ≤ d.size) (hs : d.size < 2 ^ 40) :
    Res (callI tab 129 [.sl id 0 len lo ex 1, .int .i64 a, .int .i64 b] H) fun e H' => e = .tup [] ∧ Wr H H' id (.cells (tB.arr (Sort.insertionSort ltB d a b)) none) := by
  refine .enter tab_129 (by simp [AF129]) (.inl rfl) ?_
  simp -implicitDefEqProofs (disch := first | omega | with_unfolding_all exact eqR (Eq.refl _)) [nums, -getElem!_pos, -Int.natCast_add, -Int.natCast_mul, -Int.natCast_ediv, AF129]
  refine l129_4 (lo := lo) (ex := ex) a b _ (a + 1) _ _ d rfl ?_ ?_ ?_ ?_ hid hd hb hl hs fun σ' H' hw => ?_
  any_goals (first | (simp; done) | skip)
  simp -implicitDefEqProofs (disch := first | omega | with_unfolding_all exact eqR (Eq.refl _)) [nums, -getElem!_pos, -Int.natCast_add, -Int.natCast_mul, -Int.natCast_ediv]
  obtain ⟨H2, e, w⟩ := hw.toFx.wrapA (H := H) (v := .tup []) rfl
  rw [e]
  exact .mk ⟨rfl, w⟩

end
end Go.Mach.Ytl
