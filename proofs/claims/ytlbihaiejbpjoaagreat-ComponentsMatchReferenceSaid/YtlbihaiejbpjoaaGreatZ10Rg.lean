/-
  Pruned copy of the text Rg. By an AI agent.
-/
import Derived.Test.YtlbihaiejbpjoaaGreatZ10Rd
set_option linter.unusedSimpArgs false
set_option linter.unusedVariables false
set_option maxRecDepth 100000
namespace Go.Mach.Ytl
open Go.Mach
section
variable {s : List Jtm} {k : KF} {Q : AV → Heap → Prop}
attribute [local simp] guardI_u
theorem call_38' {a c : Mo} {H : Heap} : callI tab 47 [mono a, mono c] H = some (mono (Mo.map2 imax a c), H) := callI_of (call_38 (n := 0))
theorem call_47' {a : Mo} {H : Heap} : callI tab 61 [mono a] H = some (.bool (decide a.valid), H) := callI_of (call_47 (n := 0))
theorem call_55L {v : AV} {l : List Mo} {H0 H : Heap} (ha : Acc tM H0 H v l) (ho : Ow H0 H) (hb : H0.base ≤ H0.next) (hl : l.length < 2 ^ 30) : Res (callI tab 36 [v] H) fun e H' => Ow H0 H' ∧ ∃ r, ML tM e r ∧ IsMin l r := by
  obtain ⟨w', H3, hz, hw', ho3⟩ := ha.frz ho hb (b := H.base) (by rw [ho.base]; exact hb) 5
  have hz2 := hw'.frz H3.base 5 H3
  obtain ⟨e9, H4, hc, hH4, r', h9', hmin'⟩ := call_55 (H := H3) hw' hl
  subst hH4
  have hz' : frz H.base 6 H v = some (w', H4) := hz
  have hz2' : frz H4.base 6 H4 w' = some (w', H4) := hz2
  have hc9 := callI_frz (H := H) (H1 := H4) (args := [v]) (args' := [w']) tab_55 rfl rfl (by simp [hz']) (by simp [hz2']) hc
  rw [hc9]
  exact .mk ⟨ho3, r', h9', hmin'⟩
theorem l59_1 {v0 v1 : AV} {l1 l2 : List Mo} (hv0 : ML tM v0 l1) (hv : ML tM v1 l2) {H0 : Heap} (hb : H0.base ≤ H0.next) (hl2 : l2.length < 65536) {i : Nat} (hi : i < l1.length) : ∀ (m j : Nat) (σ : Sig) (H : Heap) (w : AV) (cur : List Mo), l2.length - j = m → j ≤ l2.length → σ 0 = v0 → σ 1 = v1 → σ 5 = w → σ 6 = .int .i64 (i : Nat) → σ 7 = .int .i64 (j : Nat) → Acc tM H0 H w cur → Ow H0 H → cur.length + (l2.length - j) < 2 ^ 30 →
    (∀ σ' H' w', σ' 0 = v0 → σ' 1 = v1 → σ' 5 = w' → σ' 6 = .int .i64 (i : Nat) → Acc tM H0 H' w' (cur ++ (l2.drop j).map (Mo.map2 imax l1[i])) → Ow H0 H' → Res (ai (callI tab) s k .nrm σ' H') Q) →
    Res (li (callI tab) L59_1 (.inBlock 2 :: s) k σ H) Q := by
  intro m
  induction m with
  | zero =>
    intro j σ H w cur hm hj h0 h1 h5 h6 h7 ha ho hlen hQ
    have hln := (hv.rd H).1
    rw [List.drop_of_length_le (by omega)] at hQ
    obtain ⟨il, hil⟩ : ∃ x, x = Jtm.inLoop L59_1 := ⟨_, rfl⟩; rw [li_eq' il hil]
    simp -implicitDefEqProofs (disch := first | omega | with_unfolding_all exact eqR (Eq.refl _)) [nums, -getElem!_pos, -Int.natCast_add, -Int.natCast_mul, -Int.natCast_ediv, L59_1, S59_0, h0, h1, h5, h6, h7, hln]
    subst hil
    try simp -implicitDefEqProofs (disch := first | omega | with_unfolding_all exact eqR (Eq.refl _)) [nums, -getElem!_pos, -Int.natCast_add, -Int.natCast_mul, -Int.natCast_ediv]
    refine hQ _ _ w ?_ ?_ ?_ ?_ (by simpa using ha) ho <;> simp [h0, h1, h5, h6]
  | succ m ih =>
    intro j σ H w cur hm hj h0 h1 h5 h6 h7 ha ho hlen hQ
    have hln := (hv.rd H).1
    have hjl : j < l2.length := by omega
    obtain ⟨p, e1, e2⟩ := ml_at hv H hjl
    obtain ⟨q, f1, f2⟩ := ml_at hv0 H hi
    obtain ⟨w', H', e3, ha', ho'⟩ := ha.app (m := [Mo.map2 imax l1[i] l2[j]]) (bs := 64) (ex := true) (n := 1) ho hb (by simp) rfl (by simp; omega)
    rw [show tM.e = 8 from rfl, ← row_one] at e3
    have hm2 : cur ++ (l2.drop j).map (Mo.map2 imax l1[i]) = (cur ++ [Mo.map2 imax l1[i] l2[j]]) ++ (l2.drop (j + 1)).map (Mo.map2 imax l1[i]) := by rw [List.drop_eq_getElem_cons hjl, List.map_cons, List.append_assoc, List.singleton_append]
    rw [hm2] at hQ
    obtain ⟨il, hil⟩ : ∃ x, x = Jtm.inLoop L59_1 := ⟨_, rfl⟩; rw [li_eq' il hil]
    simp -implicitDefEqProofs (disch := first | omega | with_unfolding_all exact eqR (Eq.refl _)) [nums, -getElem!_pos, -Int.natCast_add, -Int.natCast_mul, -Int.natCast_ediv, L59_1, S59_0, h0, h1, h5, h6, h7, hln, e1, e2, f1, f2, call_38', bslR_mono, e3]
    subst hil
    try simp -implicitDefEqProofs (disch := first | omega | with_unfolding_all exact eqR (Eq.refl _)) [nums, -getElem!_pos, -Int.natCast_add, -Int.natCast_mul, -Int.natCast_ediv]
    refine ih (j + 1) _ H' w' _ (by omega) (by omega) ?_ ?_ ?_ ?_ ?_ ha' ho' (by simp; omega) hQ
    all_goals simp [h0, h1, h5, h6]
theorem l59_4 {v0 v1 : AV} {l1 l2 : List Mo} (hv0 : ML tM v0 l1) (hv : ML tM v1 l2) {H0 : Heap} (hb : H0.base ≤ H0.next) (hl1 : l1.length < 65536) (hl2 : l2.length < 65536) : ∀ (m j : Nat) (σ : Sig) (H : Heap) (w : AV) (cur : List Mo), l1.length - j = m → j ≤ l1.length → σ 0 = v0 → σ 1 = v1 → σ 5 = w → σ 6 = .int .i64 (j : Nat) → Acc tM H0 H w cur → Ow H0 H → cur.length + (l1.length - j) * l2.length < 2 ^ 30 →
    (∀ σ' H' w', σ' 5 = w' → Acc tM H0 H' w' (cur ++ lcms (l1.drop j) l2) → Ow H0 H' → Res (ai (callI tab) s k .nrm σ' H') Q) →
    Res (li (callI tab) L59_4 (.inBlock 0 :: s) k σ H) Q := by
  intro m
  induction m with
  | zero =>
    intro j σ H w cur hm hj h0 h1 h5 h6 ha ho hlen hQ
    have hln := (hv0.rd H).1
    rw [List.drop_of_length_le (by omega)] at hQ
    obtain ⟨il, hil⟩ : ∃ x, x = Jtm.inLoop L59_4 := ⟨_, rfl⟩; rw [li_eq' il hil]
    simp -implicitDefEqProofs (disch := first | omega | with_unfolding_all exact eqR (Eq.refl _)) [nums, -getElem!_pos, -Int.natCast_add, -Int.natCast_mul, -Int.natCast_ediv, L59_4, S59_3, h0, h1, h5, h6, hln]
    subst hil
    try simp -implicitDefEqProofs (disch := first | omega | with_unfolding_all exact eqR (Eq.refl _)) [nums, -getElem!_pos, -Int.natCast_add, -Int.natCast_mul, -Int.natCast_ediv]
    refine hQ _ _ w ?_ (by simpa [lcms] using ha) ho <;> simp [h5]
  | succ m ih =>
    intro j σ H w cur hm hj h0 h1 h5 h6 ha ho hlen hQ
    have hln := (hv0.rd H).1
    have hjl : j < l1.length := by omega
    have hmul : (l1.length - j) * l2.length = l2.length + (l1.length - (j + 1)) * l2.length := by rw [show l1.length - j = (l1.length - (j + 1)) + 1 by omega, Nat.succ_mul]; omega
    rw [List.drop_eq_getElem_cons hjl, lcms_cons, ← List.append_assoc] at hQ
    obtain ⟨il, hil⟩ : ∃ x, x = Jtm.inLoop L59_4 := ⟨_, rfl⟩; rw [li_eq' il hil]
    simp -implicitDefEqProofs (disch := first | omega | with_unfolding_all exact eqR (Eq.refl _)) [nums, -getElem!_pos, -Int.natCast_add, -Int.natCast_mul, -Int.natCast_ediv, L59_4, S59_3, h0, h1, h5, h6, hln]
    refine l59_1 (v0 := v0) (v1 := v1) hv0 hv hb hl2 hjl _ 0 _ _ w cur rfl (by omega) ?_ ?_ ?_ ?_ ?_ ha ho (by omega) fun σ1 H1 w1 g0 g1 g5 g6 ga go => ?_
    any_goals (first | (simp [h0, h1, h5, h6]; done) | skip)
    rw [List.drop_zero] at ga
    simp -implicitDefEqProofs (disch := first | omega | with_unfolding_all exact eqR (Eq.refl _)) [nums, -getElem!_pos, -Int.natCast_add, -Int.natCast_mul, -Int.natCast_ediv, S59_2, g0, g1, g5, g6]
    subst hil
    try simp -implicitDefEqProofs (disch := first | omega | with_unfolding_all exact eqR (Eq.refl _)) [nums, -getElem!_pos, -Int.natCast_add, -Int.natCast_mul, -Int.natCast_ediv]
    refine ih (j + 1) _ H1 w1 _ (by omega) (by omega) ?_ ?_ ?_ ?_ ga go (by simp; omega) hQ
    all_goals simp [g0, g1, g5, g6]
theorem call_59 {v0 v1 : AV} {l1 l2 : List Mo} {H : Heap} (hv0 : ML tM v0 l1) (hv : ML tM v1 l2) (hl1 : l1.length < 65536) (hl2 : l2.length < 65536) (hl : l1.length * l2.length < 2 ^ 30) : Res (callI tab 19 [v0, v1] H) fun e H' => H' = H ∧ ∃ r, ML tM e r ∧ IsMin (lcms l1 l2) r := by
  have hf1 := hv0.frz
  have hf2 := hv.frz
  refine .hide fun Q hQ => .enter tab_59 (by simp [AF59]) (.inr (by simp [hf1, hf2])) ?_
  simp -implicitDefEqProofs (disch := first | omega | with_unfolding_all exact eqR (Eq.refl _)) [nums, -getElem!_pos, -Int.natCast_add, -Int.natCast_mul, -Int.natCast_ediv, AF59]
  refine l59_4 hv0 hv (H0 := H.begin) (Nat.le_refl _) hl1 hl2 _ 0 _ _ (.vec 0 true []) [] rfl (by omega) ?_ ?_ ?_ ?_ .vec (.refl _) (by simpa using hl) fun σ' H' w' q5 ha ho => ?_
  any_goals (first | (simp; done) | skip)
  simp -implicitDefEqProofs (disch := first | omega | with_unfolding_all exact eqR (Eq.refl _)) [nums, -getElem!_pos, -Int.natCast_add, -Int.natCast_mul, -Int.natCast_ediv, S59_5, q5]
  refine .call (call_55L ha ho (Nat.le_refl _) (by rw [List.nil_append, List.drop_zero, lcms_length]; exact hl)) fun e H2 ⟨ho2, r, hr, hmin⟩ => ?_
  have hf := hr.frz
  have hnn := hr.nonew H.next 3
  have hws : H2.ws = [] := ho2.ws
  simp -implicitDefEqProofs (disch := first | omega | with_unfolding_all exact eqR (Eq.refl _)) [nums, -getElem!_pos, -Int.natCast_add, -Int.natCast_mul, -Int.natCast_ediv, hf, hnn, wrap_quiet hws hnn]
  exact .mk (hQ _ _ ⟨rfl, r, hr, by simpa using hmin⟩)
theorem l96_2 {a : Mo} {H0 : Heap} (hb : H0.base ≤ H0.next) {b : Nat} (hbb : H0.next ≤ b) : ∀ (m j : Nat) (σ : Sig) (H : Heap) (w : AV) (cur : List Mo), 8 - j = m → j ≤ 8 → σ 1 = .ptr b 0 → σ 3 = w → σ 4 = .int .i64 (j : Nat) → AccP tM (fun i => H0.next ≤ i ∧ i ≠ b) H w cur → Ow H0 H → b < H.next → H.obj b = .cells a.cells none → cur.length ≤ j →
    (∀ σ' H' w', σ' 3 = w' → AccP tM (fun i => H0.next ≤ i ∧ i ≠ b) H' w' (cur ++ (((List.range 8).drop j).filter fun q => decide (0 < a.get q)).map fun q => Mo.zero.setI q (a.get q)) → Ow H0 H' → Res (ai (callI tab) s k .nrm σ' H') Q) →
    Res (li (callI tab) L96_2 (.inBlock 0 :: s) k σ H) Q := by
  intro m
  induction m with
  | zero =>
    intro j σ H w cur hm hj h1 h3 h4 ha ho hlt hob hlen hQ
    have : j = 8 := by omega
    subst this
    obtain ⟨il, hil⟩ : ∃ x, x = Jtm.inLoop L96_2 := ⟨_, rfl⟩; rw [li_eq' il hil]
    simp -implicitDefEqProofs (disch := first | omega | with_unfolding_all exact eqR (Eq.refl _)) [nums, -getElem!_pos, -Int.natCast_add, -Int.natCast_mul, -Int.natCast_ediv, L96_2, S96_1, h1, h3, h4]
    subst hil
    try simp -implicitDefEqProofs (disch := first | omega | with_unfolding_all exact eqR (Eq.refl _)) [nums, -getElem!_pos, -Int.natCast_add, -Int.natCast_mul, -Int.natCast_ediv]
    refine hQ _ _ w ?_ (by rw [List.drop_of_length_le (by simp)]; simpa using ha) ho <;> simp [h3]
  | succ m ih =>
    intro j σ H w cur hm hj h1 h3 h4 ha ho hlt hob hlen hQ
    have hj8 : j < 8 := by omega
    have c8 : ((j : Nat) : Int) < 8 := by omega
    have hf0 : fillA Mo.zero.cells [] = some Mo.zero.cells := rfl
    have hag : AV.agg Mo.zero.cells = mono Mo.zero := rfl
    rw [List.drop_eq_getElem_cons (by simp; omega), List.getElem_range] at hQ
    by_cases h0 : 0 < a.get j
    · rw [List.filter_cons_of_pos (by simpa using h0), List.map_cons, ← List.singleton_append, ← List.append_assoc] at hQ
      have hnx := ho.next
      have dA : Df (fun i => H0.next ≤ i ∧ i ≠ b) H (((H.new (.cells Mo.zero.cells none)).set H.next (.cells Mo.zero.cells none)).set H.next (.cells (Mo.zero.setI j (a.get j)).cells none)) := ((Df.refl.new _).set _ (.inr (Nat.le_refl _))).set _ (.inr (Nat.le_refl _))
      have nA : (((H.new (.cells Mo.zero.cells none)).set H.next (.cells Mo.zero.cells none)).set H.next (.cells (Mo.zero.setI j (a.get j)).cells none)).next = H.next + 1 := rfl
      have a1 : AccP tM (fun i => H0.next ≤ i ∧ i ≠ b) (((H.new (.cells Mo.zero.cells none)).set H.next (.cells Mo.zero.cells none)).set H.next (.cells (Mo.zero.setI j (a.get j)).cells none)) w cur := ha.frame dA.next (fun i h1 h2 => by simp only [Heap.new, Heap.set, upd]; rw [if_neg (by omega), if_neg (by omega), if_neg (by omega)]) fun i h _ => h
      obtain ⟨w', H', e3, ha', df⟩ := a1.app (m := [Mo.zero.setI j (a.get j)]) (bs := 64) (ex := true) (n := 1) (by rw [nA]; omega) (by simp) rfl (by simp; omega)
      rw [show tM.e = 8 from rfl, ← row_one] at e3
      have d12 := dA.trans df
      have n2 := d12.next
      have hne : ¬ b = H.next := by omega
      obtain ⟨il, hil⟩ : ∃ x, x = Jtm.inLoop L96_2 := ⟨_, rfl⟩; rw [li_eq' il hil]
      simp -implicitDefEqProofs (disch := first | omega | with_unfolding_all exact eqR (Eq.refl _)) [nums, -getElem!_pos, -Int.natCast_add, -Int.natCast_mul, -Int.natCast_ediv, L96_2, S96_1, S96_0, h1, h3, h4, c8, iaddr_arr, hob, loadI, h0, hf0, hag, storeZ, storeI, hne, ldM, bslR_mono, e3]
      subst hil
      try simp -implicitDefEqProofs (disch := first | omega | with_unfolding_all exact eqR (Eq.refl _)) [nums, -getElem!_pos, -Int.natCast_add, -Int.natCast_mul, -Int.natCast_ediv]
      refine ih (j + 1) _ H' w' _ (by omega) (by omega) ?_ ?_ ?_ ha' (d12.ow ho hb fun i h => h.1) (by omega) (by rw [d12.obj b hlt (fun h => h.2 rfl)]; exact hob) (by simp; omega) hQ
      all_goals simp [h1, h3, h4]
    · rw [List.filter_cons_of_neg (by simpa using h0)] at hQ
      obtain ⟨il, hil⟩ : ∃ x, x = Jtm.inLoop L96_2 := ⟨_, rfl⟩; rw [li_eq' il hil]
      simp -implicitDefEqProofs (disch := first | omega | with_unfolding_all exact eqR (Eq.refl _)) [nums, -getElem!_pos, -Int.natCast_add, -Int.natCast_mul, -Int.natCast_ediv, L96_2, S96_1, S96_0, h1, h3, h4, c8, iaddr_arr, hob, loadI, h0]
      subst hil
      try simp -implicitDefEqProofs (disch := first | omega | with_unfolding_all exact eqR (Eq.refl _)) [nums, -getElem!_pos, -Int.natCast_add, -Int.natCast_mul, -Int.natCast_ediv]
      refine ih (j + 1) _ H w cur (by omega) (by omega) ?_ ?_ ?_ ha ho hlt hob (by omega) hQ
      all_goals simp [h1, h3, h4]
theorem call_96 {a : Mo} {H : Heap} : Res (callI tab 45 [mono a] H) fun e H' => H' = H ∧ ML tM e (powL a) := by
  refine .hide fun Q hQ => .enter tab_96 (by simp [AF96]) (.inr (by simp)) ?_
  simp -implicitDefEqProofs (disch := first | omega | with_unfolding_all exact eqR (Eq.refl _)) [nums, -getElem!_pos, -Int.natCast_add, -Int.natCast_mul, -Int.natCast_ediv, AF96]
  refine l96_2 (a := a) (H0 := H.begin) (Nat.le_refl _) (b := H.next) (Nat.le_refl _) _ 0 _ _ (.vec 0 true []) [] rfl (by omega) ?_ ?_ ?_ .vec (.new (.refl _) _) (by show H.next < H.next + 1; omega) (by simp [Heap.new, upd]) (by simp) fun σ' H' w' q3 ha ho => ?_
  any_goals (first | (simp; done) | skip)
  obtain ⟨e, H2, hz, hml, ho2⟩ := (ha.acc (H0 := H.begin) fun i h => h.1).frz ho (Nat.le_refl _) (Nat.le_refl _) 5
  have hnn := hml.nonew H.next 3
  have hws : H2.ws = [] := ho2.ws
  have hz' : Mach.frz H.next 6 H' w' = some (e, H2) := hz
  simp -implicitDefEqProofs (disch := first | omega | with_unfolding_all exact eqR (Eq.refl _)) [nums, -getElem!_pos, -Int.natCast_add, -Int.natCast_mul, -Int.natCast_ediv, S96_3, q3, hz', hnn, wrap_quiet hws hnn]
  exact .mk (hQ _ _ ⟨rfl, by simpa [powL] using hml⟩)
end
end Go.Mach.Ytl
set_option linter.unusedSimpArgs false
set_option linter.unusedVariables false
set_option maxRecDepth 100000
namespace Go.Mach.Ytl
open Go.Mach
def boxL : List Mo := (List.range 4).flatMap fun a => (List.range 4).flatMap fun b => (List.range 4).flatMap fun c => (List.range 4).map fun d => ⟨(a : Nat), (b : Nat), (c : Nat), (d : Nat), 0, 0, 0, 0⟩
theorem boxL_len : boxL.length = 256 := by decide +kernel
theorem box_mem {n : Nat} (hn : n ≤ 4) {x : Mo} (h : Box n x) : x ∈ boxL := by
  have h0 := h 0; have h1 := h 1; have h2 := h 2; have h3 := h 3; have h4 := (h 4).2.2 hn; have h5 := (h 5).2.2 (by omega); have h6 := (h 6).2.2 (by omega); have h7 := (h 7).2.2 (by omega)
  obtain ⟨x0, x1, x2, x3, x4, x5, x6, x7⟩ := x
  simp only [Mo.get] at h0 h1 h2 h3 h4 h5 h6 h7
  subst h4 h5 h6 h7
  simp only [boxL, List.mem_flatMap, List.mem_map, List.mem_range]
  refine ⟨x0.toNat, by omega, x1.toNat, by omega, x2.toNat, by omega, x3.toNat, by omega, ?_⟩
  congr 1 <;> omega
theorem box_len {n : Nat} (hn : n ≤ 4) {r : List Mo} (hr : r.Nodup) (h : ∀ x ∈ r, Box n x) : r.length ≤ 256 := by
  rw [← boxL_len]; exact nodup_len hr fun x hx => box_mem hn (h x hx)
theorem exps_box {n : Nat} {L : List Mo} (hL : ∀ m ∈ L, Box n m) {b : Mo} (h : ∀ q, b.get q = 0 ∨ ∃ m ∈ L, 0 < m.get q ∧ b.get q = m.get q) : Box n b := fun q => by
  rcases h q with h | ⟨m, hm, h1, h2⟩
  · rw [h]; omega
  · have := hL m hm q; rw [h2]; exact this
theorem Good.box {n : Nat} {L r : List Mo} (h : Good L r) (hL : ∀ m ∈ L, Box n m) : ∀ b ∈ r, Box n b := fun b hb => exps_box hL (h.exps b hb)
theorem good_len {n : Nat} (hn : n ≤ 4) {L : List Mo} (hL : ∀ m ∈ L, Box n m) : ∀ r, Good L r → r.length ≤ 1000 := fun r h => by
  have := box_len hn h.nodup (h.box hL); omega
theorem Box.valid {n : Nat} {m : Mo} (h : Box n m) : m.valid := valid_get.2 fun q _ => by have := h q; omega
theorem le_refl' {a : Mo} : Mo.le a a := le_get.2 fun _ _ => Int.le_refl _
theorem le_tr {a b c : Mo} (h : Mo.le a b) (k : Mo.le b c) : Mo.le a c := le_get.2 fun q hq => Int.le_trans (le_get.1 h q hq) (le_get.1 k q hq)
theorem le_anti {a b : Mo} (h : Mo.le a b) (k : Mo.le b a) : a = b := Mo.ext' fun q hq => Int.le_antisymm (le_get.1 h q hq) (le_get.1 k q hq)
theorem min_unique {r q : List Mo} (hr : IsMin r r) (hq : IsMin q q) (nr : ∀ x ∈ r, x.nn) (nq : ∀ x ∈ q, x.nn) (h : ∀ t, t.nn → ((∃ x ∈ r, Mo.le x t) ↔ ∃ x ∈ q, Mo.le x t)) : r = q := by
  have one : ∀ {r q : List Mo}, IsMin r r → (∀ x ∈ r, x.nn) → (∀ x ∈ q, x.nn) → (∀ t, t.nn → ((∃ x ∈ r, Mo.le x t) ↔ ∃ x ∈ q, Mo.le x t)) → ∀ x ∈ r, x ∈ q := by
    intro r q hr nr nq h x hx
    obtain ⟨y, hy, h1⟩ := (h x (nr x hx)).1 ⟨x, hx, le_refl'⟩
    obtain ⟨z, hz, h2⟩ := (h y (nq y hy)).2 ⟨y, hy, le_refl'⟩
    have hzx : z = x := ((hr.mem x).1 hx).2 z hz (le_tr h2 h1)
    subst hzx
    rw [le_anti h2 h1]; exact hy
  exact hr.desc.ext hq.desc fun m => ⟨one hr nr nq h m, one hq nq nr (fun t ht => (h t ht).symm) m⟩
theorem powL_le {a t : Mo} (ht : t.nn) : (∃ p ∈ powL a, Mo.le p t) ↔ inQ a t := by
  rw [← powL_any ht, List.any_eq_true]
  simp only [dvd_iff]
structure Mt (n : Nat) (S : List Mo) (r : List Mo) : Prop where
  min : IsMin r r
  box : ∀ x ∈ r, Box n x
  sem : ∀ t, t.nn → ((∃ x ∈ r, Mo.le x t) ↔ ∀ b ∈ S, inQ b t)
theorem Mt.start {n : Nat} : Mt n [] [Mo.zero] where
  min := ⟨by simp [Desc], fun m => by simp only [List.mem_singleton, Low]; exact ⟨fun h => ⟨h, fun d hd _ => hd.trans h.symm⟩, fun h => h.1⟩⟩
  box x hx := by rw [List.mem_singleton] at hx; subst hx; intro q; rw [zero_get]; omega
  sem t ht := ⟨fun _ b hb => (nomatch hb), fun _ => ⟨Mo.zero, by simp, le_get.2 fun q hq => by rw [zero_get]; exact nn_get.1 ht q hq⟩⟩
theorem powL_box {n : Nat} {a : Mo} (ha : Box n a) : ∀ x ∈ powL a, Box n x := fun x hx => by
  simp only [powL, List.mem_map, List.mem_filter, List.mem_range, decide_eq_true_eq] at hx
  obtain ⟨q, ⟨hq, h0⟩, rfl⟩ := hx
  intro j
  rw [get_set hq]
  split
  · rename_i e; subst e; exact ha j
  · rw [zero_get]; omega
theorem max_box {n : Nat} {a b : Mo} (ha : Box n a) (hb : Box n b) : Box n (Mo.map2 imax a b) := fun q => by
  by_cases hq : q < 8
  · rw [map2_get hq]; have h1 := ha q; have h2 := hb q; unfold imax; split
    · exact h2
    · exact h1
  · have : (Mo.map2 imax a b).get q = 0 := by
      match q, hq with
      | q + 8, _ => rfl
    rw [this]; omega
theorem Mt.next {n : Nat} {S r r' : List Mo} {a : Mo} (h : Mt n S r) (ha : Box n a) (hm : IsMin (lcms r (powL a)) r') : Mt n (S ++ [a]) r' where
  min := hm.self
  box x hx := by
    obtain ⟨p, hp, q, hq, rfl⟩ := lcms_mem.1 (hm.sub hx)
    exact max_box (h.box p hp) (powL_box ha q hq)
  sem t ht := by
    have hnn : ∀ x ∈ lcms r (powL a), x.nn := fun x hx => by
      obtain ⟨p, hp, q, hq, rfl⟩ := lcms_mem.1 hx
      exact (max_box (h.box p hp) (powL_box ha q hq)).nn
    have e := hm.any_le hnn t
    rw [lcms_any, Bool.eq_iff_iff, Bool.and_eq_true, List.any_eq_true, List.any_eq_true, List.any_eq_true] at e
    simp only [decide_eq_true_eq] at e
    rw [e, h.sem t ht, powL_le ht]
    constructor
    · rintro ⟨h1, h2⟩ b hb
      rcases List.mem_append.1 hb with hb | hb
      · exact h1 b hb
      · rw [List.mem_singleton] at hb; subst hb; exact h2
    · intro h1
      exact ⟨fun b hb => h1 b (List.mem_append_left _ hb), h1 a (by simp)⟩
theorem Mt.len {n : Nat} (hn : n ≤ 4) {S r : List Mo} (h : Mt n S r) : r.length ≤ 256 := box_len hn h.min.desc.nodup h.box
section
variable {s : List Jtm} {k : KF} {Q : AV → Heap → Prop}
attribute [local simp] guardI_u
end
end Go.Mach.Ytl
set_option linter.unusedSimpArgs false
set_option linter.unusedVariables false
set_option maxRecDepth 100000
namespace Go.Mach.Ytl
open Go.Mach
def dualE (e : Int) : Int := if e = 0 then 3 else e - 1
def dualM (a : Mo) : Mo := ⟨dualE a.x0, dualE a.x1, dualE a.x2, dualE a.x3, dualE a.x4, dualE a.x5, dualE a.x6, dualE a.x7⟩
theorem dual_get {a : Mo} {q : Nat} (h : q < 8) : (dualM a).get q = dualE (a.get q) := by
  match q, h with
  | 0, _ | 1, _ | 2, _ | 3, _ | 4, _ | 5, _ | 6, _ | 7, _ => rfl
theorem dual_nn {n : Nat} {a : Mo} (ha : Box n a) : (dualM a).nn := nn_get.2 fun q hq => by
  rw [dual_get hq]; have := ha q; unfold dualE; split <;> omega
theorem dual_not {a : Mo} : ¬ inQ a (dualM a) := fun ⟨q, hq, h0, h1⟩ => by
  rw [dual_get hq] at h1; unfold dualE at h1; split at h1 <;> omega
theorem dual_in {n : Nat} {a b : Mo} (hb : Box n b) (h : ¬ insB b a = true) : inQ b (dualM a) := by
  rw [insB_iff] at h
  obtain ⟨q, h⟩ := Classical.not_forall.1 h
  obtain ⟨hq, h⟩ := Classical.not_imp.1 h
  obtain ⟨h0, h⟩ := Classical.not_imp.1 h
  refine ⟨q, hq, h0, ?_⟩
  rw [dual_get hq]
  have := hb q
  unfold dualE
  split
  · omega
  · rename_i hne
    have : ¬ a.get q ≤ b.get q := fun h2 => h ⟨hne, h2⟩
    omega
theorem min_sem {L M : List Mo} {n : Nat} (h : IsMin L M) (hL : ∀ m ∈ L, Box n m) (t : Mo) : (∃ x ∈ M, Mo.le x t) ↔ ∃ m ∈ L, Mo.le m t := by
  have := h.any_le (fun x hx => (hL x hx).nn) t
  rw [Bool.eq_iff_iff, List.any_eq_true, List.any_eq_true] at this
  simpa using this
section
variable {s : List Jtm} {k : KF} {Q : AV → Heap → Prop}
attribute [local simp] guardI_u
end
end Go.Mach.Ytl
