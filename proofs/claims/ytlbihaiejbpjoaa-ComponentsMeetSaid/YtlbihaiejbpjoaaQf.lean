/-
  Law 13 (ComponentsMeet): the walk. By an AI agent.
-/
import Derived.Test.YtlbihaiejbpjoaaQe
import Derived.Test.YtlbihaiejbpjoaaCt
set_option linter.unusedSimpArgs false
set_option linter.unusedVariables false
set_option maxRecDepth 100000
namespace Go.Mach.Ytl
open Go.Mach
section
variable {s : List Jtm} {k : KF} {Q : AV → Heap → Prop}
/-- The value of an Input. -/
def inp (v : AV) (n : Nat) : AV := .agg [v, .int .u8 n]
theorem inp_flat {v : AV} {l : List Mo} {n : Nat} (hv : ML tQ v l) : (inp v n).flat = some [v, .int .u8 n] := by
  have := hv.flat
  simp [inp, this]
theorem inp_frz {v : AV} {l : List Mo} {n : Nat} (hv : ML tQ v l) (b m : Nat) (H : Heap) : frz b (m + 2) H (inp v n) = some (inp v n, H) := by
  have := hv.frz b m H
  simp [inp, this]
theorem ld20 {a b : AV} : part true 2 [a, b] 0 = some (.agg [a, b]) := rfl
theorem call_24 {v : AV} {l : List Mo} {n : Nat} (hv : ML tQ v l) (hn : n < 256) {H : Heap} : callI tab 24 [inp v n] H = some (.int .i64 (n % 5 : Nat), H) := by
  have hf := inp_flat (n := n) hv
  have hz := inp_frz (n := n) hv H.base 4 H
  obtain ⟨c, hc⟩ : ∃ c, c = n % 5 := ⟨_, rfl⟩
  have hrem : ((n : Nat) : Int).tmod 5 = ((c : Nat) : Int) := by rw [hc]; rfl
  rw [← hc]
  have : Res (callI tab 24 [inp v n] H) fun e H' => e = .int .i64 (c : Nat) ∧ H' = H := by
    refine .hide fun Q hQ => .enter tab_24 (by simp [AF24]) (.inr (by simp [hz])) ?_
    simp -implicitDefEqProofs (disch := first | omega | with_unfolding_all exact eqR (Eq.refl _)) [nums, -getElem!_pos, -Int.natCast_add, -Int.natCast_mul, -Int.natCast_ediv, AF24, hf, hrem, load21]
    exact .mk (hQ _ _ ⟨rfl, rfl⟩)
  obtain ⟨e, H', h, rfl, rfl⟩ := this
  exact h
theorem call_23 {v : AV} {l : List Mo} {n : Nat} (hv : ML tQ v l) (hn : n < 256) (hby : ∀ m ∈ l, Bytes m) (hll : l.length < 2 ^ 63) {H : Heap} : Res (callI tab 23 [inp v n] H) fun e H' => H' = H ∧ ∃ L, ML tM e L ∧ L.length ≤ 4 ∧ ∀ m ∈ L, Box (n % 5) m := by
  have hf := inp_flat (n := n) hv
  have hz := inp_frz (n := n) hv H.base 4 H
  obtain ⟨c, hc⟩ : ∃ c, c = n % 5 := ⟨_, rfl⟩
  have hrem : ((n : Nat) : Int).tmod 5 = ((c : Nat) : Int) := by rw [hc]; rfl
  rw [← hc]
  refine .hide fun Q hQ => .enter tab_23 (by simp [AF23]) (.inr (by simp [hz])) ?_
  simp -implicitDefEqProofs (disch := first | omega | with_unfolding_all exact eqR (Eq.refl _)) [nums, -getElem!_pos, -Int.natCast_add, -Int.natCast_mul, -Int.natCast_ediv, AF23, hf, hrem, load20, load21]
  have h52 := fun H => call_52 (n := c) (most := 4) (H := H) hv (by omega) (by omega) hby hll
  rw [show ((4 : Nat) : Int) = 4 from rfl] at h52
  refine .call (h52 _) fun e H' ⟨hH, L, hL, h1, h2⟩ => ?_
  subst hH
  have hf2 := hL.frz
  have hnn := hL.nonew H.next 3
  simp -implicitDefEqProofs (disch := first | omega | with_unfolding_all exact eqR (Eq.refl _)) [nums, -getElem!_pos, -Int.natCast_add, -Int.natCast_mul, -Int.natCast_ediv, hf2, hnn]
  try rw [wrap_quiet rfl hnn]
  exact .mk (hQ _ _ ⟨rfl, L, hL, h1, h2⟩)

def cubeN (t : Mo) : Nat → Mo
  | 0 => Mo.zero
  | j + 1 => (cubeN t j).setI j (3 * t.get j)
def cube (t : Mo) : Mo := cubeN t 8
theorem cubeN_get {t : Mo} : ∀ j, j ≤ 8 → ∀ q, (cubeN t j).get q = if q < j then 3 * t.get q else 0
  | 0, _ => fun q => by simp [cubeN, zero_get]
  | j + 1, h => fun q => by
    rw [cubeN, get_set (by omega), cubeN_get j (by omega) q]
    by_cases hqj : q = j
    · subst hqj; rw [if_pos rfl, if_pos (by omega)]
    · rw [if_neg hqj]
      by_cases h2 : q < j
      · rw [if_pos h2, if_pos (by omega)]
      · rw [if_neg h2, if_neg (by omega)]
theorem cube_get {t : Mo} {q : Nat} (h : q < 8) : (cube t).get q = 3 * t.get q := by rw [cube, cubeN_get 8 (Nat.le_refl _), if_pos h]

theorem l13_1 {b12 b13 : Nat} {t : Mo} (ht : ∀ q, 0 ≤ t.get q ∧ t.get q ≤ 4) {H0 : Heap} (hb : H0.base ≤ H0.next) (h12 : H0.next ≤ b12) (h13 : H0.next ≤ b13) (hne : b12 ≠ b13) {x5 x6 x7 x8 x9 x10 x11 : AV} : ∀ (m j : Nat) (σ : Sig) (H : Heap), 8 - j = m → j ≤ 8 → σ 5 = x5 → σ 6 = x6 → σ 7 = x7 → σ 8 = x8 → σ 9 = x9 → σ 10 = x10 → σ 11 = x11 → σ 12 = .ptr b12 0 → σ 13 = .ptr b13 0 → σ 14 = .int .i64 (j : Nat) → Ow H0 H → b12 < H.next → b13 < H.next → H.obj b12 = .cells t.cells none → H.obj b13 = .cells (cubeN t j).cells none →
    (∀ σ' H', σ' 5 = x5 → σ' 6 = x6 → σ' 7 = x7 → σ' 8 = x8 → σ' 9 = x9 → σ' 10 = x10 → σ' 11 = x11 → σ' 12 = .ptr b12 0 → σ' 13 = .ptr b13 0 → Ow H0 H' → H'.obj b12 = .cells t.cells none → H'.obj b13 = .cells (cube t).cells none → Res (ai (callI tab) s k .nrm σ' H') Q) →
    Res (li (callI tab) L13_1 (.inBlock 2 :: s) k σ H) Q := by
  intro m
  induction m with
  | zero =>
    intro j σ H hm hj h5 h6 h7 h8 h9 h10 h11 g12 g13 h14 ho n12 n13 o12 o13 hQ
    have : j = 8 := by omega
    subst this
    obtain ⟨il, hil⟩ : ∃ x, x = Jtm.inLoop L13_1 := ⟨_, rfl⟩; rw [li_eq' il hil]
    simp -implicitDefEqProofs (disch := first | omega | with_unfolding_all exact eqR (Eq.refl _)) [nums, -getElem!_pos, -Int.natCast_add, -Int.natCast_mul, -Int.natCast_ediv, L13_1, S13_0, h5, h6, h7, h8, h9, h10, h11, g12, g13, h14]
    subst hil
    try simp -implicitDefEqProofs (disch := first | omega | with_unfolding_all exact eqR (Eq.refl _)) [nums, -getElem!_pos, -Int.natCast_add, -Int.natCast_mul, -Int.natCast_ediv]
    refine hQ _ _ ?_ ?_ ?_ ?_ ?_ ?_ ?_ ?_ ?_ ho o12 o13 <;> simp [h5, h6, h7, h8, h9, h10, h11, g12, g13]
  | succ m ih =>
    intro j σ H hm hj h5 h6 h7 h8 h9 h10 h11 g12 g13 h14 ho n12 n13 o12 o13 hQ
    have hj8 : j < 8 := by omega
    have hc : ((j : Nat) : Int) < 8 := by omega
    have hw : IntKind.i64.wrap (3 * t.get j) = 3 * t.get j := wrap_int (by have := ht j; omega) (by have := ht j; omega)
    have hst : (cubeN t j).setI j (3 * t.get j) = cubeN t (j + 1) := rfl
    have hne' : ¬ b13 = b12 := fun e => hne e.symm
    obtain ⟨il, hil⟩ : ∃ x, x = Jtm.inLoop L13_1 := ⟨_, rfl⟩; rw [li_eq' il hil]
    simp -implicitDefEqProofs (disch := first | omega | with_unfolding_all exact eqR (Eq.refl _)) [nums, -getElem!_pos, -Int.natCast_add, -Int.natCast_mul, -Int.natCast_ediv, L13_1, S13_0, h5, h6, h7, h8, h9, h10, h11, g12, g13, h14, hc, iaddr_arr, o12, o13, loadI, hw, storeI, hst]
    subst hil
    try simp -implicitDefEqProofs (disch := first | omega | with_unfolding_all exact eqR (Eq.refl _)) [nums, -getElem!_pos, -Int.natCast_add, -Int.natCast_mul, -Int.natCast_ediv]
    refine ih (j + 1) _ _ (by omega) (by omega) ?_ ?_ ?_ ?_ ?_ ?_ ?_ ?_ ?_ ?_ (ho.set _ h13 hb) n12 n13 (by simp only [Heap.set, upd]; rw [if_neg hne]; exact o12) (by simp [Heap.set, upd]) hQ
    all_goals simp [h5, h6, h7, h8, h9, h10, h11, g12, g13]

theorem l13_6 {vl vm vb vr vt : AV} {L M B R T : List Mo} (hL : ML tM vl L) (hM : ML tM vm M) (hB : ML tM vb B) (hR : ML tM vr R) (hT : ML tM vt T) (lL : L.length < 2 ^ 40) (lM : M.length < 2 ^ 40) (lB : B.length < 2 ^ 40) (lR : R.length < 2 ^ 40) (lT : T.length < 2 ^ 40)
    (ht : ∀ t ∈ T, ∀ q, 0 ≤ t.get q ∧ t.get q ≤ 4) (h1 : ∀ t ∈ T, (B.any fun x => decide (Mo.le x t)) = ((L.any fun x => decide (Mo.le x t)) && (M.any fun x => decide (Mo.le x t)))) (h2 : ∀ t ∈ T, (R.any fun x => decide (Mo.le x t)) = L.any fun x => decide (Mo.le x (cube t))) {H0 : Heap} (hb : H0.base ≤ H0.next) : ∀ (m j : Nat) (σ : Sig) (H : Heap), T.length - j = m → j ≤ T.length → σ 5 = .bool true → σ 6 = vl → σ 7 = vm → σ 8 = vb → σ 9 = vr → σ 10 = vt → σ 11 = .int .i64 (j : Nat) → Ow H0 H →
    (∀ σ' H', σ' 5 = .bool true → Ow H0 H' → Res (ai (callI tab) s k .nrm σ' H') Q) →
    Res (li (callI tab) L13_6 (.inBlock 0 :: s) k σ H) Q := by
  intro m
  induction m with
  | zero =>
    intro j σ H hm hj h5 h6 h7 h8 h9 h10 h11 ho hQ
    have hln := (hT.rd H).1
    obtain ⟨il, hil⟩ : ∃ x, x = Jtm.inLoop L13_6 := ⟨_, rfl⟩; rw [li_eq' il hil]
    simp -implicitDefEqProofs (disch := first | omega | with_unfolding_all exact eqR (Eq.refl _)) [nums, -getElem!_pos, -Int.natCast_add, -Int.natCast_mul, -Int.natCast_ediv, L13_6, S13_5, h5, h6, h7, h8, h9, h10, h11, hln]
    subst hil
    try simp -implicitDefEqProofs (disch := first | omega | with_unfolding_all exact eqR (Eq.refl _)) [nums, -getElem!_pos, -Int.natCast_add, -Int.natCast_mul, -Int.natCast_ediv]
    refine hQ _ _ ?_ ho <;> simp [h5]
  | succ m ih =>
    intro j σ H hm hj h5 h6 h7 h8 h9 h10 h11 ho hQ
    have hln := (hT.rd H).1
    have hjl : j < T.length := by omega
    obtain ⟨p, e1, e2⟩ := ml_at hT H hjl
    have hmem : T[j] ∈ T := List.getElem_mem hjl
    have f1 := h1 _ hmem
    have f2 := h2 _ hmem
    have c1 : ∀ H, callI tab 57 [mono T[j], vb] H = some (.bool ((L.any fun x => decide (Mo.le x T[j])) && (M.any fun x => decide (Mo.le x T[j]))), H) := fun H => by rw [← f1]; exact call_57 hB lB
    have c2 : ∀ H, callI tab 57 [mono T[j], vl] H = some (.bool (L.any fun x => decide (Mo.le x T[j])), H) := fun H => call_57 hL lL
    have c3 : ∀ H, callI tab 57 [mono T[j], vm] H = some (.bool (M.any fun x => decide (Mo.le x T[j])), H) := fun H => call_57 hM lM
    have c4 : ∀ H, callI tab 57 [mono T[j], vr] H = some (.bool (L.any fun x => decide (Mo.le x (cube T[j]))), H) := fun H => by rw [← f2]; exact call_57 hR lR
    have c5 : ∀ H, callI tab 57 [mono (cube T[j]), vl] H = some (.bool (L.any fun x => decide (Mo.le x (cube T[j]))), H) := fun H => call_57 hL lL
    generalize hA : (L.any fun x => decide (Mo.le x T[j])) = A at *
    generalize hBB : (M.any fun x => decide (Mo.le x T[j])) = B' at *
    generalize hC : (L.any fun x => decide (Mo.le x (cube T[j]))) = C at *
    have hf0 : fillA Mo.zero.cells [] = some Mo.zero.cells := rfl
    have hag : AV.agg Mo.zero.cells = mono Mo.zero := rfl
    have a1 : ¬ H.next = H.next + 1 := by omega
    have a2 : ¬ H.next + 1 = H.next := by omega
    have go : ∀ il σ', il = Jtm.inLoop L13_6 → σ' 5 = .bool true → σ' 6 = vl → σ' 7 = vm → σ' 8 = vb → σ' 9 = vr → σ' 10 = vt → σ' 11 = .int .i64 (j : Nat) → σ' 12 = .ptr H.next 0 → Res (gi (callI tab) S13_3 (.inBlock 1 :: .code S13_4 :: il :: .inBlock 0 :: s) k σ' ((H.new (.cells Mo.zero.cells none)).set H.next (.cells (T[j]).cells none))) Q := by
      intro il σ' hil h5 h6 h7 h8 h9 h10 h11 h12
      have o1 : Ow H0 ((H.new (.cells Mo.zero.cells none)).set H.next (.cells (T[j]).cells none)) := (ho.new _).set _ ho.next hb
      have hnx := ho.next
      simp -implicitDefEqProofs (disch := first | omega | with_unfolding_all exact eqR (Eq.refl _)) [nums, -getElem!_pos, -Int.natCast_add, -Int.natCast_mul, -Int.natCast_ediv, S13_3, h5, h6, h7, h8, h9, h10, h11, h12, hf0, hag, storeZ]
      refine l13_1 (b12 := H.next) (b13 := H.next + 1) (t := T[j]) (ht _ hmem) (H0 := H0) hb ho.next (by omega) (by omega) (x5 := .bool true) (x6 := vl) (x7 := vm) (x8 := vb) (x9 := vr) (x10 := vt) (x11 := .int .i64 (j : Nat)) _ 0 _ _ rfl (by omega) ?_ ?_ ?_ ?_ ?_ ?_ ?_ ?_ ?_ ?_ ((o1.new _).set _ (by omega) hb) (by show H.next < H.next + 1 + 1; omega) (by show H.next + 1 < H.next + 1 + 1; omega) (by simp [Heap.set, Heap.new, upd]) (by simp [Heap.set, Heap.new, upd, cubeN]) fun σ1 H1 g5 g6 g7 g8 g9 g10 g11 g12 g13 go1 q12 q13 => ?_
      any_goals (first | (simp [h5, h6, h7, h8, h9, h10, h11, h12]; done) | skip)
      cases C
      all_goals
        simp -implicitDefEqProofs (disch := first | omega | with_unfolding_all exact eqR (Eq.refl _)) [nums, -getElem!_pos, -Int.natCast_add, -Int.natCast_mul, -Int.natCast_ediv, S13_2, S13_4, g5, g6, g7, g8, g9, g10, g11, g12, g13, q12, q13, ldM, c4, c5]
        subst hil
        try simp -implicitDefEqProofs (disch := first | omega | with_unfolding_all exact eqR (Eq.refl _)) [nums, -getElem!_pos, -Int.natCast_add, -Int.natCast_mul, -Int.natCast_ediv]
        refine ih (j + 1) _ _ (by omega) (by omega) ?_ ?_ ?_ ?_ ?_ ?_ ?_ go1 hQ
        all_goals simp [g5, g6, g7, g8, g9, g10, g11]
    cases A with
    | false =>
      obtain ⟨il, hil⟩ : ∃ x, x = Jtm.inLoop L13_6 := ⟨_, rfl⟩; rw [li_eq' il hil]
      simp -implicitDefEqProofs (disch := first | omega | with_unfolding_all exact eqR (Eq.refl _)) [nums, -getElem!_pos, -Int.natCast_add, -Int.natCast_mul, -Int.natCast_ediv, L13_6, S13_5, h5, h6, h7, h8, h9, h10, h11, hln, e1, e2, storeZ, ldM, c1, c2, c3]
      refine go _ _ hil ?_ ?_ ?_ ?_ ?_ ?_ ?_ ?_
      all_goals simp [h5, h6, h7, h8, h9, h10, h11]
    | true =>
      cases B'
      all_goals
        obtain ⟨il, hil⟩ : ∃ x, x = Jtm.inLoop L13_6 := ⟨_, rfl⟩; rw [li_eq' il hil]
        simp -implicitDefEqProofs (disch := first | omega | with_unfolding_all exact eqR (Eq.refl _)) [nums, -getElem!_pos, -Int.natCast_add, -Int.natCast_mul, -Int.natCast_ediv, L13_6, S13_5, h5, h6, h7, h8, h9, h10, h11, hln, e1, e2, storeZ, ldM, c1, c2, c3]
        refine go _ _ hil ?_ ?_ ?_ ?_ ?_ ?_ ?_ ?_
        all_goals simp [h5, h6, h7, h8, h9, h10, h11]
end
end Go.Mach.Ytl
