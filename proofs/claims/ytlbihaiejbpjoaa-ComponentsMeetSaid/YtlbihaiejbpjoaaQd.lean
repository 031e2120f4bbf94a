/-
  The given ideals (Made, made, vars) and the tried monomials (all). By an AI agent.
-/
import Derived.Test.YtlbihaiejbpjoaaQc
import Derived.Test.YtlbihaiejbpjoaaPf
set_option linter.unusedSimpArgs false
set_option linter.unusedVariables false
set_option maxRecDepth 100000
namespace Go.Mach.Ytl
open Go.Mach
section
variable {s : List Jtm} {k : KF} {Q : AV → Heap → Prop}
/-! ### all -/
def allV : Nat → List Mo
  | 0 => [Mo.zero]
  | i + 1 => (allV i).flatMap fun m => (List.range 5).map fun e => m.setI i (e : Nat)
/-- A list that can be read whatever is added. -/
def Stb (Hs : Heap) (v : AV) (X : List Mo) : Prop := ∀ H, Ow Hs H → Rd tM H v X
theorem ML.stb {Hs : Heap} {v : AV} {X : List Mo} (h : ML tM v X) : Stb Hs v X := fun H _ => h.rd H
theorem acc_stb {H0 Hs : Heap} {v : AV} {X : List Mo} (h : Acc tM H0 Hs v X) : Stb Hs v X := fun H ho => (h.other ho.next fun i _ hi => ho.obj i hi).rd

theorem l56_1 {v0 v3 : AV} {X : List Mo} {Hs : Heap} (hb : Hs.base ≤ Hs.next) (hX : Stb Hs v3 X) {i kx : Nat} (hi : i < 8) (hk : kx < X.length) {x6 : AV} (h6' : x6 = .int .i64 (kx : Nat)) (hXl : X.length < 2 ^ 30) : ∀ (m e : Nat) (σ : Sig) (H : Heap) (w : AV) (cur : List Mo), 5 - e = m → e ≤ 5 → σ 0 = v0 → σ 3 = v3 → σ 4 = .int .i64 (i : Nat) → σ 5 = w → σ 6 = x6 → σ 7 = .int .i64 (e : Nat) → Acc tM Hs H w cur → Ow Hs H → cur.length + 5 < 2 ^ 30 + e →
    (∀ σ' H' w', σ' 0 = v0 → σ' 3 = v3 → σ' 4 = .int .i64 (i : Nat) → σ' 5 = w' → σ' 6 = x6 → Acc tM Hs H' w' (cur ++ ((List.range 5).drop e).map fun e => X[kx].setI i (e : Nat)) → Ow Hs H' → Res (ai (callI tab) s k .nrm σ' H') Q) →
    Res (li (callI tab) L56_1 (.inBlock 4 :: s) k σ H) Q := by
  subst h6'
  intro m
  induction m with
  | zero =>
    intro e σ H w cur hm he h0 h3 h4 h5 h6 h7 ha ho hlen hQ
    have : e = 5 := by omega
    subst this
    obtain ⟨il, hil⟩ : ∃ x, x = Jtm.inLoop L56_1 := ⟨_, rfl⟩; rw [li_eq' il hil]
    simp -implicitDefEqProofs (disch := first | omega | with_unfolding_all exact eqR (Eq.refl _)) [nums, -getElem!_pos, -Int.natCast_add, -Int.natCast_mul, -Int.natCast_ediv, L56_1, S56_0, h0, h3, h4, h5, h6, h7]
    subst hil
    try simp -implicitDefEqProofs (disch := first | omega | with_unfolding_all exact eqR (Eq.refl _)) [nums, -getElem!_pos, -Int.natCast_add, -Int.natCast_mul, -Int.natCast_ediv]
    refine hQ _ _ w ?_ ?_ ?_ ?_ ?_ (by rw [List.drop_of_length_le (by simp)]; simpa using ha) ho <;> simp [h0, h3, h4, h5, h6]
  | succ m ih =>
    intro e σ H w cur hm he h0 h3 h4 h5 h6 h7 ha ho hlen hQ
    have he5 : ((e : Nat) : Int) ≤ 4 := by omega
    obtain ⟨p, e1, e2⟩ := (hX H ho).2 kx hk
    rw [show tM.e = 8 from rfl] at e1 e2
    rw [show tM.agg = true from rfl, show tM.val X[kx] = mono X[kx] from rfl] at e2
    have o1 : Ow Hs (((H.new (.cells Mo.zero.cells none)).set H.next (.cells (X[kx]).cells none)).set H.next (.cells (X[kx].setI i (e : Nat)).cells none)) := ((ho.new _).set _ ho.next hb).set _ ho.next hb
    have a1 : Acc tM Hs (((H.new (.cells Mo.zero.cells none)).set H.next (.cells (X[kx]).cells none)).set H.next (.cells (X[kx].setI i (e : Nat)).cells none)) w cur := ha.other (by show H.next ≤ H.next + 1; omega) fun i h1 h2 => by simp only [Heap.new, Heap.set, upd]; rw [if_neg (by omega), if_neg (by omega), if_neg (by omega)]
    obtain ⟨w', H', e3, ha', ho'⟩ := a1.app (m := [X[kx].setI i (e : Nat)]) (bs := 64) (ex := true) (n := 1) o1 hb (by simp) rfl (by simp; omega)
    rw [show tM.e = 8 from rfl, ← row_one] at e3
    have hm2 : cur ++ ((List.range 5).drop e).map (fun e => X[kx].setI i (e : Nat)) = (cur ++ [X[kx].setI i (e : Nat)]) ++ ((List.range 5).drop (e + 1)).map (fun e => X[kx].setI i (e : Nat)) := by
      rw [List.drop_eq_getElem_cons (by simp; omega), List.map_cons, List.append_assoc, List.singleton_append, List.getElem_range]
    rw [hm2] at hQ
    obtain ⟨il, hil⟩ : ∃ x, x = Jtm.inLoop L56_1 := ⟨_, rfl⟩; rw [li_eq' il hil]
    simp -implicitDefEqProofs (disch := first | omega | with_unfolding_all exact eqR (Eq.refl _)) [nums, -getElem!_pos, -Int.natCast_add, -Int.natCast_mul, -Int.natCast_ediv, L56_1, S56_0, h0, h3, h4, h5, h6, h7, he5, e1, e2, storeZ, iaddr_arr, storeI, ldM, bslR_mono, e3]
    subst hil
    try simp -implicitDefEqProofs (disch := first | omega | with_unfolding_all exact eqR (Eq.refl _)) [nums, -getElem!_pos, -Int.natCast_add, -Int.natCast_mul, -Int.natCast_ediv]
    refine ih (e + 1) _ H' w' _ (by omega) (by omega) ?_ ?_ ?_ ?_ ?_ ?_ ha' ho' (by simp; omega) hQ
    all_goals simp [h0, h3, h4, h5, h6]

def nextV (i : Nat) (X : List Mo) : List Mo := X.flatMap fun m => (List.range 5).map fun e => m.setI i (e : Nat)
theorem nextV_cons {i : Nat} {a : Mo} {X : List Mo} : nextV i (a :: X) = ((List.range 5).map fun e => a.setI i (e : Nat)) ++ nextV i X := by simp [nextV]
theorem l56_4 {v0 v3 : AV} {X : List Mo} {Hs : Heap} (hb : Hs.base ≤ Hs.next) (hX : Stb Hs v3 X) {i : Nat} (hi : i < 8) (hXl : X.length < 2 ^ 20) : ∀ (m j : Nat) (σ : Sig) (H : Heap) (w : AV) (cur : List Mo), X.length - j = m → j ≤ X.length → σ 0 = v0 → σ 3 = v3 → σ 4 = .int .i64 (i : Nat) → σ 5 = w → σ 6 = .int .i64 (j : Nat) → Acc tM Hs H w cur → Ow Hs H → cur.length = 5 * j →
    (∀ σ' H' w', σ' 0 = v0 → σ' 4 = .int .i64 (i : Nat) → σ' 5 = w' → Acc tM Hs H' w' (cur ++ nextV i (X.drop j)) → Ow Hs H' → Res (ai (callI tab) s k .nrm σ' H') Q) →
    Res (li (callI tab) L56_4 (.inBlock 2 :: s) k σ H) Q := by
  intro m
  induction m with
  | zero =>
    intro j σ H w cur hm hj h0 h3 h4 h5 h6 ha ho hlen hQ
    have hln := (hX H ho).1
    rw [List.drop_of_length_le (by omega)] at hQ
    obtain ⟨il, hil⟩ : ∃ x, x = Jtm.inLoop L56_4 := ⟨_, rfl⟩; rw [li_eq' il hil]
    simp -implicitDefEqProofs (disch := first | omega | with_unfolding_all exact eqR (Eq.refl _)) [nums, -getElem!_pos, -Int.natCast_add, -Int.natCast_mul, -Int.natCast_ediv, L56_4, S56_3, h0, h3, h4, h5, h6, hln]
    subst hil
    try simp -implicitDefEqProofs (disch := first | omega | with_unfolding_all exact eqR (Eq.refl _)) [nums, -getElem!_pos, -Int.natCast_add, -Int.natCast_mul, -Int.natCast_ediv]
    refine hQ _ _ w ?_ ?_ ?_ (by simpa [nextV] using ha) ho <;> simp [h0, h4, h5]
  | succ m ih =>
    intro j σ H w cur hm hj h0 h3 h4 h5 h6 ha ho hlen hQ
    have hln := (hX H ho).1
    have hjl : j < X.length := by omega
    rw [List.drop_eq_getElem_cons hjl, nextV_cons, ← List.append_assoc] at hQ
    obtain ⟨il, hil⟩ : ∃ x, x = Jtm.inLoop L56_4 := ⟨_, rfl⟩; rw [li_eq' il hil]
    simp -implicitDefEqProofs (disch := first | omega | with_unfolding_all exact eqR (Eq.refl _)) [nums, -getElem!_pos, -Int.natCast_add, -Int.natCast_mul, -Int.natCast_ediv, L56_4, S56_3, h0, h3, h4, h5, h6, hln]
    refine l56_1 (v0 := v0) (v3 := v3) (X := X) (kx := j) (i := i) (x6 := .int .i64 (j : Nat)) hb hX hi hjl rfl (by omega) _ 0 _ _ w cur rfl (by omega) ?_ ?_ ?_ ?_ ?_ ?_ ha ho (by omega) fun σ1 H1 w1 g0 g3 g4 g5 g6 ga go => ?_
    any_goals (first | (simp [h0, h3, h4, h5, h6]; done) | skip)
    rw [List.drop_zero] at ga
    simp -implicitDefEqProofs (disch := first | omega | with_unfolding_all exact eqR (Eq.refl _)) [nums, -getElem!_pos, -Int.natCast_add, -Int.natCast_mul, -Int.natCast_ediv, S56_2, g0, g3, g4, g5, g6]
    subst hil
    try simp -implicitDefEqProofs (disch := first | omega | with_unfolding_all exact eqR (Eq.refl _)) [nums, -getElem!_pos, -Int.natCast_add, -Int.natCast_mul, -Int.natCast_ediv]
    refine ih (j + 1) _ H1 w1 _ (by omega) (by omega) ?_ ?_ ?_ ?_ ?_ ga go (by simp; omega) hQ
    all_goals simp [g0, g3, g4, g5, g6]
theorem nextV_len {i : Nat} : ∀ X : List Mo, (nextV i X).length = 5 * X.length
  | [] => rfl
  | a :: X => by rw [nextV_cons, List.length_append, nextV_len X]; simp; omega
theorem allV_len : ∀ i, (allV i).length = 5 ^ i
  | 0 => rfl
  | i + 1 => by show (nextV i (allV i)).length = _; rw [nextV_len, allV_len i, Nat.pow_succ]; omega

theorem l56_8 {n : Nat} (hn : n ≤ 4) {H0 : Heap} (hb : H0.base ≤ H0.next) : ∀ (m i : Nat) (σ : Sig) (H : Heap) (v : AV), n - i = m → i ≤ n → σ 0 = .int .i64 (n : Nat) → σ 3 = v → σ 4 = .int .i64 (i : Nat) → (ML tM v (allV i) ∨ Acc tM H0 H v (allV i)) → Ow H0 H →
    (∀ σ' H' v', σ' 3 = v' → (ML tM v' (allV n) ∨ Acc tM H0 H' v' (allV n)) → Ow H0 H' → Res (ai (callI tab) s k .nrm σ' H') Q) →
    Res (li (callI tab) L56_8 (.inBlock 0 :: s) k σ H) Q := by
  intro m
  induction m with
  | zero =>
    intro i σ H v hm hi h0 h3 h4 hX ho hQ
    have : i = n := by omega
    subst this
    obtain ⟨il, hil⟩ : ∃ x, x = Jtm.inLoop L56_8 := ⟨_, rfl⟩; rw [li_eq' il hil]
    simp -implicitDefEqProofs (disch := first | omega | with_unfolding_all exact eqR (Eq.refl _)) [nums, -getElem!_pos, -Int.natCast_add, -Int.natCast_mul, -Int.natCast_ediv, L56_8, S56_7, h0, h3, h4]
    subst hil
    try simp -implicitDefEqProofs (disch := first | omega | with_unfolding_all exact eqR (Eq.refl _)) [nums, -getElem!_pos, -Int.natCast_add, -Int.natCast_mul, -Int.natCast_ediv]
    refine hQ _ _ v ?_ hX ho <;> simp [h3]
  | succ m ih =>
    intro i σ H v hm hi h0 h3 h4 hX ho hQ
    have hil' : i < n := by omega
    have hstb : Stb H v (allV i) := by
      rcases hX with h | h
      · exact ML.stb h
      · exact acc_stb h
    have hpow : 5 ^ i ≤ 5 ^ 4 := Nat.pow_le_pow_right (by omega) (by omega)
    have hbH : H.base ≤ H.next := by rw [ho.base]; exact Nat.le_trans hb ho.next
    obtain ⟨il, hil⟩ : ∃ x, x = Jtm.inLoop L56_8 := ⟨_, rfl⟩; rw [li_eq' il hil]
    simp -implicitDefEqProofs (disch := first | omega | with_unfolding_all exact eqR (Eq.refl _)) [nums, -getElem!_pos, -Int.natCast_add, -Int.natCast_mul, -Int.natCast_ediv, L56_8, S56_7, h0, h3, h4]
    refine l56_4 (v0 := .int .i64 (n : Nat)) (v3 := v) (X := allV i) (Hs := H) (i := i) hbH hstb (by omega) (by rw [allV_len]; omega) _ 0 _ _ (.vec 0 true []) [] rfl (by omega) ?_ ?_ ?_ ?_ ?_ .vec (.refl _) rfl fun σ1 H1 w1 g0 g4 g5 ga go => ?_
    any_goals (first | (simp [h0, h3, h4]; done) | skip)
    have ga2 : Acc tM H0 H1 w1 (allV (i + 1)) := by
      rw [List.nil_append, List.drop_zero] at ga
      exact ga.weaken ho.next
    simp -implicitDefEqProofs (disch := first | omega | with_unfolding_all exact eqR (Eq.refl _)) [nums, -getElem!_pos, -Int.natCast_add, -Int.natCast_mul, -Int.natCast_ediv, S56_5, S56_6, g0, g4, g5]
    subst hil
    try simp -implicitDefEqProofs (disch := first | omega | with_unfolding_all exact eqR (Eq.refl _)) [nums, -getElem!_pos, -Int.natCast_add, -Int.natCast_mul, -Int.natCast_ediv]
    refine ih (i + 1) _ H1 w1 (by omega) (by omega) ?_ ?_ ?_ (.inr ga2) (ho.trans go) hQ
    all_goals simp [g0, g4, g5]
theorem call_56 {n : Nat} {H : Heap} (hn : n ≤ 4) : Res (callI tab 56 [.int .i64 n] H) fun e H' => H' = H ∧ ML tM e (allV n) := by
  have hz : fillA [] [] = some [] := rfl
  have hf0 : fillA Mo.zero.cells [] = some Mo.zero.cells := rfl
  have hag : AV.agg Mo.zero.cells = mono Mo.zero := rfl
  refine .hide fun Q hQ => .enter tab_56 (by simp [AF56]) (.inr (by simp)) ?_
  simp -implicitDefEqProofs (disch := first | omega | with_unfolding_all exact eqR (Eq.refl _)) [nums, -getElem!_pos, -Int.natCast_add, -Int.natCast_mul, -Int.natCast_ediv, AF56, hf0, hag, bslR_mono]
  refine l56_8 hn (H0 := H.begin) (Nat.le_refl _) _ 0 _ _ (.vec 1 true Mo.zero.cells) rfl (by omega) ?_ ?_ ?_ (.inl (.inr ⟨true, rfl⟩)) (.refl _) fun σ' H' v' q3 hv ho => ?_
  any_goals (first | (simp; done) | skip)
  obtain ⟨e, H2, hz, hml, ho2⟩ : ∃ e H2, Mach.frz H.next 6 H' v' = some (e, H2) ∧ ML tM e (allV n) ∧ Ow H.begin H2 := by
    rcases hv with h | h
    · exact ⟨v', H', h.frz _ _ _, h, ho⟩
    · exact h.frz ho (Nat.le_refl _) (Nat.le_refl _) 5
  have hnn := hml.nonew H.next 3
  have hws : H2.ws = [] := ho2.ws
  simp -implicitDefEqProofs (disch := first | omega | with_unfolding_all exact eqR (Eq.refl _)) [nums, -getElem!_pos, -Int.natCast_add, -Int.natCast_mul, -Int.natCast_ediv, S56_9, q3, hz, hnn, wrap_quiet hws hnn]
  exact .mk (hQ _ _ ⟨rfl, hml⟩)
end
end Go.Mach.Ytl
