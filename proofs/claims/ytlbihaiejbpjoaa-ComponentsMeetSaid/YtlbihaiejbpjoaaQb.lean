/-
  Radical; the reference's In and Minimal. By an AI agent.
-/
import Derived.Test.YtlbihaiejbpjoaaQa
import Derived.Test.YtlbihaiejbpjoaaPd
set_option linter.unusedSimpArgs false
set_option linter.unusedVariables false
set_option maxRecDepth 100000
namespace Go.Mach.Ytl
open Go.Mach
section
variable {s : List Jtm} {k : KF} {Q : AV → Heap → Prop}
def radN (m : Mo) : Nat → Mo
  | 0 => m
  | j + 1 => (radN m j).setI j (imin ((radN m j).get j) 1)
def rad (m : Mo) : Mo := radN m 8
theorem mm_min {k : IntKind} {x y : Int} : mmA false (.int k x) [.int k y] = some (.int k (imin x y)) := by
  simp [mmA, mm2, imin]
theorem radN_get {m : Mo} {q : Nat} (hq : q < 8) : ∀ j, j ≤ 8 → (radN m j).get q = if q < j then imin (m.get q) 1 else m.get q
  | 0, _ => by simp [radN]
  | j + 1, h => by
    have ih := fun q hq => radN_get (m := m) (q := q) hq j (by omega)
    rw [radN, get_set (by omega)]
    by_cases hqj : q = j
    · subst hqj; rw [if_pos rfl, if_pos (by omega), ih q hq, if_neg (by omega)]
    · rw [if_neg hqj, ih q hq]
      by_cases h2 : q < j
      · rw [if_pos h2, if_pos (by omega)]
      · rw [if_neg h2, if_neg (by omega)]
theorem rad_get {m : Mo} {q : Nat} (hq : q < 8) : (rad m).get q = imin (m.get q) 1 := by rw [rad, radN_get hq 8 (Nat.le_refl _), if_pos hq]

theorem l54_1 {v0 : AV} {H0 : Heap} (hb : H0.base ≤ H0.next) {b : Nat} (hb5 : H0.next ≤ b) {a : Mo} {x7 x8 x9 w : AV} {cur : List Mo} : ∀ (m j : Nat) (σ : Sig) (H : Heap), 8 - j = m → j ≤ 8 → σ 0 = v0 → σ 3 = w → σ 5 = .ptr b 0 → σ 7 = x7 → σ 8 = x8 → σ 9 = x9 → σ 13 = .int .i64 (j : Nat) → AccP tM (fun i => H0.next ≤ i ∧ i ≠ b) H w cur → Ow H0 H → b < H.next → H.obj b = .cells (radN a j).cells none →
    (∀ σ' H', σ' 0 = v0 → σ' 3 = w → σ' 5 = .ptr b 0 → σ' 7 = x7 → σ' 8 = x8 → σ' 9 = x9 → AccP tM (fun i => H0.next ≤ i ∧ i ≠ b) H' w cur → Ow H0 H' → b < H'.next → H'.obj b = .cells (rad a).cells none → Res (ai (callI tab) s k .nrm σ' H') Q) →
    Res (li (callI tab) L54_1 (.inBlock 2 :: s) k σ H) Q := by
  intro m
  induction m with
  | zero =>
    intro j σ H hm hj h0 h3 h5 h7 h8 h9 h13 ha ho hn hob hQ
    have : j = 8 := by omega
    subst this
    obtain ⟨il, hil⟩ : ∃ x, x = Jtm.inLoop L54_1 := ⟨_, rfl⟩; rw [li_eq' il hil]
    simp -implicitDefEqProofs (disch := first | omega | with_unfolding_all exact eqR (Eq.refl _)) [nums, -getElem!_pos, -Int.natCast_add, -Int.natCast_mul, -Int.natCast_ediv, L54_1, S54_0, h0, h3, h5, h7, h8, h9, h13]
    subst hil
    try simp -implicitDefEqProofs (disch := first | omega | with_unfolding_all exact eqR (Eq.refl _)) [nums, -getElem!_pos, -Int.natCast_add, -Int.natCast_mul, -Int.natCast_ediv]
    refine hQ _ _ ?_ ?_ ?_ ?_ ?_ ?_ ha ho hn hob <;> simp [h0, h3, h5, h7, h8, h9]
  | succ m ih =>
    intro j σ H hm hj h0 h3 h5 h7 h8 h9 h13 ha ho hn hob hQ
    have hj8 : j < 8 := by omega
    have hc : ((j : Nat) : Int) < 8 := by omega
    have hd : Df (fun i => H0.next ≤ i) H (H.set b (.cells (radN a (j + 1)).cells none)) := Df.refl.set _ (.inl hb5)
    have hst : (radN a j).setI j (imin ((radN a j).get j) 1) = radN a (j + 1) := rfl
    obtain ⟨il, hil⟩ : ∃ x, x = Jtm.inLoop L54_1 := ⟨_, rfl⟩; rw [li_eq' il hil]
    simp -implicitDefEqProofs (disch := first | omega | with_unfolding_all exact eqR (Eq.refl _)) [nums, -getElem!_pos, -Int.natCast_add, -Int.natCast_mul, -Int.natCast_ediv, L54_1, S54_0, h0, h3, h5, h7, h8, h9, h13, hc, iaddr_arr, hob, loadI, mm_min, storeI, hst]
    subst hil
    try simp -implicitDefEqProofs (disch := first | omega | with_unfolding_all exact eqR (Eq.refl _)) [nums, -getElem!_pos, -Int.natCast_add, -Int.natCast_mul, -Int.natCast_ediv]
    refine ih (j + 1) _ _ (by omega) (by omega) ?_ ?_ ?_ ?_ ?_ ?_ ?_ (ha.frame (Nat.le_refl _) (fun i h1 h2 => by simp only [Heap.set, upd]; rw [if_neg h1.2]) fun i h _ => h) (hd.ow ho hb fun i h => h) hn (by simp [Heap.set, upd]) hQ
    all_goals simp [h0, h3, h5, h7, h8, h9]

theorem l54_5 {v0 : AV} {l : List Mo} (hv : ML tM v0 l) {H0 : Heap} (hb : H0.base ≤ H0.next) (hl : l.length < 65536) : ∀ (m j : Nat) (σ : Sig) (H : Heap) (w : AV) (cur : List Mo), l.length - j = m → j ≤ l.length → σ 0 = v0 → σ 3 = w → σ 7 = v0 → σ 8 = .int .i64 (l.length : Nat) → σ 9 = .int .i64 (j : Nat) → AccP tM (fun i => H0.next ≤ i) H w cur → Ow H0 H → cur.length + (l.length - j) < 65536 →
    (∀ σ' H' w', σ' 3 = w' → AccP tM (fun i => H0.next ≤ i) H' w' (cur ++ (l.drop j).map rad) → Ow H0 H' → Res (ai (callI tab) s k .nrm σ' H') Q) →
    Res (li (callI tab) L54_5 (.inBlock 0 :: s) k σ H) Q := by
  intro m
  induction m with
  | zero =>
    intro j σ H w cur hm hj h0 h3 h7 h8 h9 ha ho hlen hQ
    rw [List.drop_of_length_le (by omega)] at hQ
    obtain ⟨il, hil⟩ : ∃ x, x = Jtm.inLoop L54_5 := ⟨_, rfl⟩; rw [li_eq' il hil]
    simp -implicitDefEqProofs (disch := first | omega | with_unfolding_all exact eqR (Eq.refl _)) [nums, -getElem!_pos, -Int.natCast_add, -Int.natCast_mul, -Int.natCast_ediv, L54_5, S54_4, h0, h3, h7, h8, h9]
    subst hil
    try simp -implicitDefEqProofs (disch := first | omega | with_unfolding_all exact eqR (Eq.refl _)) [nums, -getElem!_pos, -Int.natCast_add, -Int.natCast_mul, -Int.natCast_ediv]
    refine hQ _ _ w ?_ (by simpa using ha) ho <;> simp [h3]
  | succ m ih =>
    intro j σ H w cur hm hj h0 h3 h7 h8 h9 ha ho hlen hQ
    have hjl : j < l.length := by omega
    obtain ⟨p, e1, e2⟩ := ml_at hv H hjl
    have d1 : Df (fun i => H0.next ≤ i) H ((H.new (.cells Mo.zero.cells none)).set H.next (.cells (l[j]).cells none)) := (Df.refl.new _).set _ (.inr (Nat.le_refl _))
    have a1 : AccP tM (fun i => H0.next ≤ i ∧ i ≠ H.next) ((H.new (.cells Mo.zero.cells none)).set H.next (.cells (l[j]).cells none)) w cur := ha.frame (by show H.next ≤ H.next + 1; omega) (fun i h1 h2 => by simp only [Heap.new, Heap.set, upd]; rw [if_neg (by omega), if_neg (by omega)]) fun i h h2 => ⟨h, by omega⟩
    have hm2 : cur ++ (l.drop j).map rad = (cur ++ [rad l[j]]) ++ (l.drop (j + 1)).map rad := by rw [List.drop_eq_getElem_cons hjl, List.map_cons, List.append_assoc, List.singleton_append]
    rw [hm2] at hQ
    obtain ⟨il, hil⟩ : ∃ x, x = Jtm.inLoop L54_5 := ⟨_, rfl⟩; rw [li_eq' il hil]
    simp -implicitDefEqProofs (disch := first | omega | with_unfolding_all exact eqR (Eq.refl _)) [nums, -getElem!_pos, -Int.natCast_add, -Int.natCast_mul, -Int.natCast_ediv, L54_5, S54_4, h0, h3, h7, h8, h9, e1, e2, storeZ]
    refine l54_1 (v0 := v0) (H0 := H0) hb (b := H.next) ho.next (a := l[j]) (x7 := v0) (x8 := .int .i64 (l.length : Nat)) (x9 := .int .i64 (j : Nat)) (w := w) (cur := cur) _ 0 _ _ rfl (by omega) ?_ ?_ ?_ ?_ ?_ ?_ ?_ a1 (d1.ow ho hb fun i h => h) (by show H.next < H.next + 1; omega) (by simp [Heap.set, upd, radN]) fun σ1 H1 g0 g3 g5 g7 g8 g9 ga go gn gob => ?_
    any_goals (first | (simp [h0, h3, h7, h8, h9]; done) | skip)
    have hx := go.next
    have hnx := ho.next
    obtain ⟨w', H', e3, ha', df⟩ := ga.app (m := [rad l[j]]) (bs := 64) (ex := true) (n := 1) ⟨hx, by omega⟩ (by simp) rfl (by simp; omega)
    rw [show tM.e = 8 from rfl, ← row_one] at e3
    simp -implicitDefEqProofs (disch := first | omega | with_unfolding_all exact eqR (Eq.refl _)) [nums, -getElem!_pos, -Int.natCast_add, -Int.natCast_mul, -Int.natCast_ediv, S54_2, S54_3, g0, g3, g5, g7, g8, g9, gob, ldM, bslR_mono, e3]
    subst hil
    try simp -implicitDefEqProofs (disch := first | omega | with_unfolding_all exact eqR (Eq.refl _)) [nums, -getElem!_pos, -Int.natCast_add, -Int.natCast_mul, -Int.natCast_ediv]
    refine ih (j + 1) _ H' w' _ (by omega) (by omega) ?_ ?_ ?_ ?_ ?_ (ha'.frame (Nat.le_refl _) (fun _ _ _ => rfl) fun i h _ => h.1) (df.ow go hb fun i h => h.1) (by simp; omega) hQ
    all_goals simp [g0, g3, g7, g8, g9]

theorem call_54 {v0 : AV} {l : List Mo} {H : Heap} (hv : ML tM v0 l) (hl : l.length < 65536) : Res (callI tab 54 [v0] H) fun e H' => H' = H ∧ ∃ r, ML tM e r ∧ IsMin (l.map rad) r := by
  have hf1 := hv.frz
  have hln := fun H => (hv.rd H).1
  refine .hide fun Q hQ => .enter tab_54 (by simp [AF54]) (.inr (by simp [hf1])) ?_
  simp -implicitDefEqProofs (disch := first | omega | with_unfolding_all exact eqR (Eq.refl _)) [nums, -getElem!_pos, -Int.natCast_add, -Int.natCast_mul, -Int.natCast_ediv, AF54, hln]
  refine l54_5 hv (H0 := H.begin) (Nat.le_refl _) hl _ 0 _ _ .nils [] rfl (by omega) ?_ ?_ ?_ ?_ ?_ .nil (.refl _) (by simpa using hl) fun σ' H' w' q3 ha ho => ?_
  any_goals (first | (simp; done) | skip)
  simp -implicitDefEqProofs (disch := first | omega | with_unfolding_all exact eqR (Eq.refl _)) [nums, -getElem!_pos, -Int.natCast_add, -Int.natCast_mul, -Int.natCast_ediv, S54_6, q3]
  refine .call (call_49L (ha.acc (H0 := H.begin) fun i h => h) ho (Nat.le_refl _) (by simpa using hl)) fun e H2 ⟨ho2, r, hr, hmin⟩ => ?_
  have hf := hr.frz
  have hnn := hr.nonew H.next 3
  have hws : H2.ws = [] := ho2.ws
  simp -implicitDefEqProofs (disch := first | omega | with_unfolding_all exact eqR (Eq.refl _)) [nums, -getElem!_pos, -Int.natCast_add, -Int.natCast_mul, -Int.natCast_ediv, hf, hnn, wrap_quiet hws hnn]
  exact .mk (hQ _ _ ⟨rfl, r, hr, by simpa using hmin⟩)

/-! ### The reference's In and lowest -/
theorem l57_2 {v1 : AV} {l : List Mo} (hv : ML tM v1 l) (hl : l.length < 2 ^ 40) {a : Mo} {b : Nat} {H0 H : Heap} (hob : H.obj b = .cells a.cells none) : ∀ (m j : Nat) (σ : Sig), l.length - j = m → j ≤ l.length → σ 1 = v1 → σ 2 = .ptr b 0 → σ 5 = .int .i64 (j : Nat) →
    Res (some (wrapA H0 (.bool ((l.drop j).any fun x => decide (Mo.le x a))) H)) Q →
    Res (li (callI tab) L57_2 [.inBlock 0, .code S57_3] (fink [.tmp 4] true H0) σ H) Q := by
  intro m
  have hln := (hv.rd H).1
  induction m with
  | zero =>
    intro j σ hm hj h1 h2 h5 hQ
    rw [List.drop_of_length_le (by omega)] at hQ
    obtain ⟨il, hil⟩ : ∃ x, x = Jtm.inLoop L57_2 := ⟨_, rfl⟩; rw [li_eq' il hil]
    simp -implicitDefEqProofs (disch := first | omega | with_unfolding_all exact eqR (Eq.refl _)) [nums, -getElem!_pos, -Int.natCast_add, -Int.natCast_mul, -Int.natCast_ediv, L57_2, S57_1, h1, h2, h5, hln]
    subst hil
    try simp -implicitDefEqProofs (disch := first | omega | with_unfolding_all exact eqR (Eq.refl _)) [nums, -getElem!_pos, -Int.natCast_add, -Int.natCast_mul, -Int.natCast_ediv, S57_3]
    exact hQ
  | succ m ih =>
    intro j σ hm hj h1 h2 h5 hQ
    have hjl : j < l.length := by omega
    obtain ⟨p, e1, e2⟩ := ml_at hv H hjl
    rw [List.drop_eq_getElem_cons hjl, List.any_cons] at hQ
    by_cases hc : Mo.le l[j] a
    · rw [decide_eq_true hc, Bool.true_or] at hQ
      obtain ⟨il, hil⟩ : ∃ x, x = Jtm.inLoop L57_2 := ⟨_, rfl⟩; rw [li_eq' il hil]
      simp -implicitDefEqProofs (disch := first | omega | with_unfolding_all exact eqR (Eq.refl _)) [nums, -getElem!_pos, -Int.natCast_add, -Int.natCast_mul, -Int.natCast_ediv, L57_2, S57_1, h1, h2, h5, hln, e1, e2, hob, ldM, call_34', hc]
      subst hil
      try simp -implicitDefEqProofs (disch := first | omega | with_unfolding_all exact eqR (Eq.refl _)) [nums, -getElem!_pos, -Int.natCast_add, -Int.natCast_mul, -Int.natCast_ediv]
      exact hQ
    · rw [decide_eq_false hc, Bool.false_or] at hQ
      obtain ⟨il, hil⟩ : ∃ x, x = Jtm.inLoop L57_2 := ⟨_, rfl⟩; rw [li_eq' il hil]
      simp -implicitDefEqProofs (disch := first | omega | with_unfolding_all exact eqR (Eq.refl _)) [nums, -getElem!_pos, -Int.natCast_add, -Int.natCast_mul, -Int.natCast_ediv, L57_2, S57_1, S57_0, h1, h2, h5, hln, e1, e2, hob, ldM, call_34', hc]
      subst hil
      try simp -implicitDefEqProofs (disch := first | omega | with_unfolding_all exact eqR (Eq.refl _)) [nums, -getElem!_pos, -Int.natCast_add, -Int.natCast_mul, -Int.natCast_ediv]
      refine ih (j + 1) _ (by omega) (by omega) ?_ ?_ ?_ hQ
      all_goals simp [h1, h2, h5]
theorem call_57 {a : Mo} {v : AV} {l : List Mo} {H : Heap} (hv : ML tM v l) (hl : l.length < 2 ^ 40) : callI tab 57 [mono a, v] H = some (.bool (l.any fun x => decide (Mo.le x a)), H) := by
  have hf := hv.frz
  have : Res (callI tab 57 [mono a, v] H) fun e H' => e = .bool (l.any fun x => decide (Mo.le x a)) ∧ H' = H := by
    refine .hide fun Q hQ => .enter tab_57 (by simp [AF57]) (.inr (by simp [hf])) ?_
    simp -implicitDefEqProofs (disch := first | omega | with_unfolding_all exact eqR (Eq.refl _)) [nums, -getElem!_pos, -Int.natCast_add, -Int.natCast_mul, -Int.natCast_ediv, AF57]
    refine l57_2 hv hl (a := a) (b := H.next) ?_ _ 0 _ rfl (by omega) ?_ ?_ ?_ ?_
    any_goals (first | (simp; done) | skip)
    rw [List.drop_zero]
    exact .mk (hQ _ _ ⟨rfl, rfl⟩)
  obtain ⟨e, H', h, rfl, rfl⟩ := this
  exact h

theorem l94_2 {v1 : AV} {l : List Mo} (hv : ML tM v1 l) (hl : l.length < 2 ^ 40) {a : Mo} {b : Nat} {H0 H : Heap} (hob : H.obj b = .cells a.cells none) : ∀ (m j : Nat) (σ : Sig), l.length - j = m → j ≤ l.length → σ 1 = v1 → σ 2 = .ptr b 0 → σ 5 = .int .i64 (j : Nat) →
    Res (some (wrapA H0 (.bool (!(l.drop j).any fun x => !decide (x = a) && decide (Mo.le x a))) H)) Q →
    Res (li (callI tab) L94_2 [.inBlock 0, .code S94_3] (fink [.tmp 4] true H0) σ H) Q := by
  intro m
  have hln := (hv.rd H).1
  induction m with
  | zero =>
    intro j σ hm hj h1 h2 h5 hQ
    rw [List.drop_of_length_le (by omega)] at hQ
    obtain ⟨il, hil⟩ : ∃ x, x = Jtm.inLoop L94_2 := ⟨_, rfl⟩; rw [li_eq' il hil]
    simp -implicitDefEqProofs (disch := first | omega | with_unfolding_all exact eqR (Eq.refl _)) [nums, -getElem!_pos, -Int.natCast_add, -Int.natCast_mul, -Int.natCast_ediv, L94_2, S94_1, h1, h2, h5, hln]
    subst hil
    try simp -implicitDefEqProofs (disch := first | omega | with_unfolding_all exact eqR (Eq.refl _)) [nums, -getElem!_pos, -Int.natCast_add, -Int.natCast_mul, -Int.natCast_ediv, S94_3]
    exact hQ
  | succ m ih =>
    intro j σ hm hj h1 h2 h5 hQ
    have hjl : j < l.length := by omega
    obtain ⟨p, e1, e2⟩ := ml_at hv H hjl
    rw [List.drop_eq_getElem_cons hjl, List.any_cons] at hQ
    by_cases he : l[j] = a
    · rw [decide_eq_true he, Bool.not_true, Bool.false_and, Bool.false_or] at hQ
      obtain ⟨il, hil⟩ : ∃ x, x = Jtm.inLoop L94_2 := ⟨_, rfl⟩; rw [li_eq' il hil]
      simp -implicitDefEqProofs (disch := first | omega | with_unfolding_all exact eqR (Eq.refl _)) [nums, -getElem!_pos, -Int.natCast_add, -Int.natCast_mul, -Int.natCast_ediv, L94_2, S94_1, S94_0, h1, h2, h5, hln, e1, e2, hob, ldM, he]
      subst hil
      try simp -implicitDefEqProofs (disch := first | omega | with_unfolding_all exact eqR (Eq.refl _)) [nums, -getElem!_pos, -Int.natCast_add, -Int.natCast_mul, -Int.natCast_ediv]
      refine ih (j + 1) _ (by omega) (by omega) ?_ ?_ ?_ hQ
      all_goals simp [h1, h2, h5]
    · rw [decide_eq_false he, Bool.not_false, Bool.true_and] at hQ
      by_cases hc : Mo.le l[j] a
      · rw [decide_eq_true hc, Bool.true_or] at hQ
        obtain ⟨il, hil⟩ : ∃ x, x = Jtm.inLoop L94_2 := ⟨_, rfl⟩; rw [li_eq' il hil]
        simp -implicitDefEqProofs (disch := first | omega | with_unfolding_all exact eqR (Eq.refl _)) [nums, -getElem!_pos, -Int.natCast_add, -Int.natCast_mul, -Int.natCast_ediv, L94_2, S94_1, h1, h2, h5, hln, e1, e2, hob, ldM, call_34', hc, he]
        subst hil
        try simp -implicitDefEqProofs (disch := first | omega | with_unfolding_all exact eqR (Eq.refl _)) [nums, -getElem!_pos, -Int.natCast_add, -Int.natCast_mul, -Int.natCast_ediv]
        exact hQ
      · rw [decide_eq_false hc, Bool.false_or] at hQ
        obtain ⟨il, hil⟩ : ∃ x, x = Jtm.inLoop L94_2 := ⟨_, rfl⟩; rw [li_eq' il hil]
        simp -implicitDefEqProofs (disch := first | omega | with_unfolding_all exact eqR (Eq.refl _)) [nums, -getElem!_pos, -Int.natCast_add, -Int.natCast_mul, -Int.natCast_ediv, L94_2, S94_1, S94_0, h1, h2, h5, hln, e1, e2, hob, ldM, call_34', hc, he]
        subst hil
        try simp -implicitDefEqProofs (disch := first | omega | with_unfolding_all exact eqR (Eq.refl _)) [nums, -getElem!_pos, -Int.natCast_add, -Int.natCast_mul, -Int.natCast_ediv]
        refine ih (j + 1) _ (by omega) (by omega) ?_ ?_ ?_ hQ
        all_goals simp [h1, h2, h5]
theorem call_94 {a : Mo} {v : AV} {l : List Mo} {H : Heap} (hv : ML tM v l) (hl : l.length < 2 ^ 40) : callI tab 94 [mono a, v] H = some (.bool (!l.any fun x => !decide (x = a) && decide (Mo.le x a)), H) := by
  have hf := hv.frz
  have : Res (callI tab 94 [mono a, v] H) fun e H' => e = .bool (!l.any fun x => !decide (x = a) && decide (Mo.le x a)) ∧ H' = H := by
    refine .hide fun Q hQ => .enter tab_94 (by simp [AF94]) (.inr (by simp [hf])) ?_
    simp -implicitDefEqProofs (disch := first | omega | with_unfolding_all exact eqR (Eq.refl _)) [nums, -getElem!_pos, -Int.natCast_add, -Int.natCast_mul, -Int.natCast_ediv, AF94]
    refine l94_2 hv hl (a := a) (b := H.next) ?_ _ 0 _ rfl (by omega) ?_ ?_ ?_ ?_
    any_goals (first | (simp; done) | skip)
    rw [List.drop_zero]
    exact .mk (hQ _ _ ⟨rfl, rfl⟩)
  obtain ⟨e, H', h, rfl, rfl⟩ := this
  exact h
end
end Go.Mach.Ytl
