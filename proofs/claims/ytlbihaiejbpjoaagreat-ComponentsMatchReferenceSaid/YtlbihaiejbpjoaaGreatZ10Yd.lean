/-
  Pruned copy of the text Yc Yd. By an AI agent.
-/
import Derived.Test.YtlbihaiejbpjoaaGreatZ10Yb
set_option linter.unusedSimpArgs false
set_option linter.unusedVariables false
set_option maxRecDepth 100000
namespace Go.Mach
theorem appA_src {H : Heap} {e bs : Nat} {x y y' : AV} (h : srcA H e y = srcA H e y') : appA H e bs x y = appA H e bs x y' := by
  unfold appA; rw [h]
theorem appA_none {α : Type} {H : Heap} {e bs : Nat} {x y : AV} {own : Nat → Prop} {t : Ty α} {l : List α} (hx : AccP t own H x l) (h : srcA H e y = some (0, [])) : appA H e bs x y = some (x, H) := by
  cases hx with
  | nil => simp [appA, h]
  | vec => simp [appA, h]
  | live id rel l n hn ho hid hlt hr hne => simp [appA, h]
namespace Ytl
open Go.Mach
section
variable {s : List Jtm} {k : KF} {Q : AV → Heap → Prop}
attribute [local simp] guardI_u
theorem src_take {own : Nat → Prop} {H : Heap} {v : AV} {l : List Mo} (h : AccP tM own H v l) {p : Nat} (hp : p ≤ l.length) : ∃ y, slcA H .sli 8 v none (some (.int .i64 (p : Nat))) none = some y ∧ srcA H 8 y = some (p, tM.row (l.take p)) := by
  cases h with
  | nil =>
    have : p = 0 := by simpa using hp
    subst this
    exact ⟨.nils, rfl, rfl⟩
  | vec =>
    have : p = 0 := by simpa using hp
    subst this
    exact ⟨.vec 0 true [], rfl, rfl⟩
  | live id rel l n hn ho hid hlt hr hne =>
    subst hn
    refine ⟨.sl id 0 p l.length false 8, slc_to hp, ?_⟩
    have h1 : (tM.row l).length = l.length * 8 := tM.row_length l
    have h2 : p * 8 ≤ l.length * 8 := Nat.mul_le_mul_right _ hp
    simp only [srcA, Heap.read, ho]
    rw [if_pos (by omega), List.drop_zero]
    have := tM.row_take l p
    rw [show tM.e = 8 from rfl] at this
    rw [this]
theorem src_drop {own : Nat → Prop} {H : Heap} {v : AV} {l : List Mo} (h : AccP tM own H v l) {p : Nat} (hp : p ≤ l.length) : ∃ y, slcA H .sli 8 v (some (.int .i64 (p : Nat))) none none = some y ∧ srcA H 8 y = some (l.length - p, tM.row (l.drop p)) := by
  cases h with
  | nil =>
    have : p = 0 := by simpa using hp
    subst this
    exact ⟨.nils, rfl, rfl⟩
  | vec =>
    have : p = 0 := by simpa using hp
    subst this
    exact ⟨.vec 0 true [], rfl, rfl⟩
  | live id rel l n hn ho hid hlt hr hne =>
    subst hn
    have h1 : (tM.row l).length = l.length * 8 := tM.row_length l
    by_cases hlt : p < l.length
    · refine ⟨_, slc_from (k := .i64) hp (Nat.le_refl _) hlt, ?_⟩
      have h2 : 0 + p * 8 + (l.length - p) * 8 = l.length * 8 := by omega
      simp only [srcA, Heap.read, ho]
      rw [if_pos (by omega)]
      have h3 := tM.row_drop l p
      rw [show tM.e = 8 from rfl] at h3
      rw [show 0 + p * 8 = p * 8 by omega, h3, List.take_of_length_le]
      have : (tM.row (l.drop p)).length = (l.drop p).length * 8 := tM.row_length _
      rw [this, List.length_drop]; omega
    · have hpl : p = l.length := by omega
      have hne0 : l.length ≠ 0 := by simpa using hne
      subst hpl
      refine ⟨.vec 0 false [], ?_, ?_⟩
      · have he : tM.e = 8 := rfl
        simp [slcA, bnds, bnd, hne, he]
      · rw [Nat.sub_self, List.drop_of_length_le (Nat.le_refl _)]; rfl
theorem AccP_app {own : Nat → Prop} {H : Heap} {v y : AV} {l m : List Mo} (h : AccP tM own H v l) (hy : srcA H 8 y = some (m.length, tM.row m)) (hnew : own H.next) (hs : l.length + m.length < 2 ^ 20) :
    ∃ v' H', appA H 8 64 v y = some (v', H') ∧ AccP tM own H' v' (l ++ m) ∧ Df own H H' := by
  cases m with
  | nil => exact ⟨v, H, appA_none h hy, by rw [List.append_nil]; exact h, .refl⟩
  | cons a m =>
    obtain ⟨v', H', e, h1, h2⟩ := h.app (m := a :: m) (bs := 64) (ex := true) (n := (a :: m).length) hnew (by simp) rfl (by simp at hs ⊢; omega)
    refine ⟨v', H', ?_, h1, h2⟩
    rw [← e]
    refine appA_src ?_
    rw [hy]
    have h3 : (tM.row (a :: m)).length = (a :: m).length * 8 := tM.row_length _
    simp only [srcA]
    rw [if_pos h3]
theorem accP_lt {own : Nat → Prop} {H : Heap} {v : AV} {l : List Mo} (h : AccP tM own H v l) : AccP tM (fun i => own i ∧ i < H.next) H v l := h.frame (Nat.le_refl _) (fun _ _ _ => rfl) fun i h1 h2 => ⟨h1, h2⟩
theorem accP_len {own : Nat → Prop} {H : Heap} {v : AV} {l : List Mo} (h : AccP tM own H v l) : lenA H 1 v = some (.int .i64 (l.length : Nat)) := by
  cases h with
  | nil => rfl
  | vec => rfl
  | live id rel l n hn ho hid hlt hr hne => subst hn; rfl
theorem l1039_1 {v0 w : AV} {l out : List Mo} {own : Nat → Prop} {H : Heap} (hv : ML tM v0 l) {i : Nat} (hi : i < l.length) (ho : AccP tM own H w out) (hol : out.length < 2 ^ 30) : ∀ (m j : Nat) (σ : Sig), out.length - j = m → j ≤ out.length → σ 0 = v0 → σ 3 = w → σ 4 = .int .i64 (i : Nat) → σ 5 = .int .i64 (j : Nat) → posP l[i] (out.drop j) + j = posP l[i] out →
    (∀ σ', σ' 0 = v0 → σ' 3 = w → σ' 4 = .int .i64 (i : Nat) → σ' 5 = .int .i64 (posP l[i] out : Nat) → Res (ai (callI tab) s k .nrm σ' H) Q) →
    Res (li (callI tab) L1039_1 (.inBlock 2 :: s) k σ H) Q := by
  intro m
  have hln := accP_len ho
  have hrd := AccP.rdF ho
  induction m with
  | zero =>
    intro j σ hm hj h0 h3 h4 h5 hp hQ
    have : j = out.length := by omega
    subst this
    rw [List.drop_of_length_le (Nat.le_refl _)] at hp
    have hp' : posP l[i] out = out.length := by simp only [posP] at hp; omega
    rw [hp'] at hQ
    obtain ⟨il, hil⟩ : ∃ x, x = Jtm.inLoop L1039_1 := ⟨_, rfl⟩; rw [li_eq' il hil]
    simp -implicitDefEqProofs (disch := first | omega | with_unfolding_all exact eqR (Eq.refl _)) [nums, -getElem!_pos, -Int.natCast_add, -Int.natCast_mul, -Int.natCast_ediv, L1039_1, h0, h3, h4, h5, hln]
    subst hil
    try simp -implicitDefEqProofs (disch := first | omega | with_unfolding_all exact eqR (Eq.refl _)) [nums, -getElem!_pos, -Int.natCast_add, -Int.natCast_mul, -Int.natCast_ediv]
    refine hQ _ ?_ ?_ ?_ ?_ <;> simp [h0, h3, h4, h5]
  | succ m ih =>
    intro j σ hm hj h0 h3 h4 h5 hp hQ
    have hjl : j < out.length := by omega
    obtain ⟨p, e1, e2⟩ := rd_at (hrd H (Nat.le_refl _) fun _ _ => rfl) hjl
    obtain ⟨q, e3, e4⟩ := ml_at hv H hi
    have c36 := fun H => call_36' (a := out[j]) (c := l[i]) (H := H)
    rw [List.drop_eq_getElem_cons hjl] at hp
    simp only [posP] at hp
    by_cases hc : Mo.cmp out[j] l[i] = 1
    · rw [if_pos hc] at hp
      rw [hc] at c36
      obtain ⟨il, hil⟩ : ∃ x, x = Jtm.inLoop L1039_1 := ⟨_, rfl⟩; rw [li_eq' il hil]
      simp -implicitDefEqProofs (disch := first | omega | with_unfolding_all exact eqR (Eq.refl _)) [nums, -getElem!_pos, -Int.natCast_add, -Int.natCast_mul, -Int.natCast_ediv, L1039_1, h0, h3, h4, h5, hln, e1, e2, e3, e4, c36, S1039_0]
      subst hil
      try simp -implicitDefEqProofs (disch := first | omega | with_unfolding_all exact eqR (Eq.refl _)) [nums, -getElem!_pos, -Int.natCast_add, -Int.natCast_mul, -Int.natCast_ediv]
      refine ih (j + 1) _ (by omega) (by omega) ?_ ?_ ?_ ?_ (by omega) hQ
      all_goals simp [h0, h3, h4]
    · rw [if_neg hc] at hp
      have hp' : posP l[i] out = j := by omega
      rw [hp'] at hQ
      have hc0 : ¬ (0 : Int) < Mo.cmp out[j] l[i] := by
        rcases cmp_pm (a := out[j]) (b := l[i]) with e | e | e
        · omega
        · omega
        · exact absurd e hc
      obtain ⟨il, hil⟩ : ∃ x, x = Jtm.inLoop L1039_1 := ⟨_, rfl⟩; rw [li_eq' il hil]
      simp -implicitDefEqProofs (disch := first | omega | with_unfolding_all exact eqR (Eq.refl _)) [nums, -getElem!_pos, -Int.natCast_add, -Int.natCast_mul, -Int.natCast_ediv, L1039_1, h0, h3, h4, h5, hln, e1, e2, e3, e4, c36, hc0]
      subst hil
      try simp -implicitDefEqProofs (disch := first | omega | with_unfolding_all exact eqR (Eq.refl _)) [nums, -getElem!_pos, -Int.natCast_add, -Int.natCast_mul, -Int.natCast_ediv]
      refine hQ _ ?_ ?_ ?_ ?_ <;> simp [h0, h3, h4, h5]
theorem l1039_5 {v0 : AV} {l : List Mo} (hv : ML tM v0 l) (hl : l.length < 2 ^ 18) {H0 : Heap} (hb : H0.base ≤ H0.next) : ∀ (m j : Nat) (σ : Sig) (H : Heap) (w : AV) (out : List Mo), l.length - j = m → j ≤ l.length → σ 0 = v0 → σ 3 = w → σ 4 = .int .i64 (j : Nat) → AccP tM (fun i => H0.next ≤ i) H w out → Ow H0 H → out.length = j →
    (∀ σ' H' w', σ' 3 = w' → AccP tM (fun i => H0.next ≤ i) H' w' ((l.drop j).foldl (fun out x => putD x out) out) → Ow H0 H' → Res (ai (callI tab) s k .nrm σ' H') Q) →
    Res (li (callI tab) L1039_5 (.inBlock 0 :: s) k σ H) Q := by
  intro m
  induction m with
  | zero =>
    intro j σ H w out hm hj h0 h3 h4 ha ho hlen hQ
    have hln := (hv.rd H).1
    rw [List.drop_of_length_le (by omega)] at hQ
    obtain ⟨il, hil⟩ : ∃ x, x = Jtm.inLoop L1039_5 := ⟨_, rfl⟩; rw [li_eq' il hil]
    simp -implicitDefEqProofs (disch := first | omega | with_unfolding_all exact eqR (Eq.refl _)) [nums, -getElem!_pos, -Int.natCast_add, -Int.natCast_mul, -Int.natCast_ediv, L1039_5, h0, h3, h4, hln]
    subst hil
    try simp -implicitDefEqProofs (disch := first | omega | with_unfolding_all exact eqR (Eq.refl _)) [nums, -getElem!_pos, -Int.natCast_add, -Int.natCast_mul, -Int.natCast_ediv]
    refine hQ _ _ w ?_ ha ho
    simp [h3]
  | succ m ih =>
    intro j σ H w out hm hj h0 h3 h4 ha ho hlen hQ
    have hln := (hv.rd H).1
    have hjl : j < l.length := by omega
    have hnx := ho.next
    rw [List.drop_eq_getElem_cons hjl, List.foldl_cons] at hQ
    have hpl := posP_le (x := l[j]) out
    -- the parts of the old list, and the new one
    obtain ⟨y1, s1, r1⟩ := src_take ha hpl
    have hB0 : AccP tM (fun i => H.next ≤ i) H (.vec 0 true []) [] := .vec
    have htl : (out.take (posP l[j] out)).length = posP l[j] out := by rw [List.length_take]; omega
    obtain ⟨v1, H1, a1, B1, d1⟩ := AccP_app hB0 (y := y1) (m := out.take (posP l[j] out)) (by rw [htl]; exact r1) (Nat.le_refl _) (by rw [htl]; simp; omega)
    rw [List.nil_append] at B1
    have n1 := d1.next
    obtain ⟨v2, H2, a2, B2, d2⟩ := AccP_app B1 (y := .vec 1 true (l[j]).cells) (m := [l[j]]) (by rw [← row_one]; rfl) n1 (by rw [htl]; simp; omega)
    have n2 := d2.next
    have hA2 : AccP tM (fun i => H0.next ≤ i ∧ i < H.next) H2 w out := (accP_lt ha).frame (by omega) (fun i h1 h2 => by rw [d2.obj i (by omega) (by omega), d1.obj i h2 (by omega)]) fun i h1 _ => h1
    obtain ⟨y3, s3, r3⟩ := src_drop hA2 hpl
    have hdl : (out.drop (posP l[j] out)).length = out.length - posP l[j] out := List.length_drop
    obtain ⟨v3, H3, a3, B3, d3⟩ := AccP_app B2 (y := y3) (m := out.drop (posP l[j] out)) (by rw [hdl]; exact r3) (by omega) (by rw [List.length_append, htl, hdl]; simp; omega)
    have hD : Df (fun i => H.next ≤ i) H H3 := (d1.trans d2).trans d3
    have hw3 : Ow H0 H3 := (Df.into hD fun i h => Nat.le_trans hnx h : Df (fun i => H0.next ≤ i) H H3).ow ho hb fun i h => h
    have hBout : AccP tM (fun i => H0.next ≤ i) H3 v3 (putD l[j] out) := B3.frame (Nat.le_refl _) (fun _ _ _ => rfl) fun i h _ => Nat.le_trans hnx h
    have hplen : (putD l[j] out).length = j + 1 := by
      have := (putD_perm (x := l[j]) out).length_eq
      rw [this, List.length_cons, hlen]
    obtain ⟨p, e1, e2⟩ := ml_at hv H1 hjl
    obtain ⟨il, hil⟩ : ∃ x, x = Jtm.inLoop L1039_5 := ⟨_, rfl⟩; rw [li_eq' il hil]
    simp -implicitDefEqProofs (disch := first | omega | with_unfolding_all exact eqR (Eq.refl _)) [nums, -getElem!_pos, -Int.natCast_add, -Int.natCast_mul, -Int.natCast_ediv, L1039_5, S1039_4, h0, h3, h4, hln]
    refine l1039_1 hv hjl ha (by omega) _ 0 _ rfl (by omega) ?_ ?_ ?_ ?_ (by rw [List.drop_zero]; rfl) fun σ1 g0 g3 g4 g5 => ?_
    any_goals (first | (simp [h0, h3, h4]; done) | skip)
    simp -implicitDefEqProofs (disch := first | omega | with_unfolding_all exact eqR (Eq.refl _)) [nums, -getElem!_pos, -Int.natCast_add, -Int.natCast_mul, -Int.natCast_ediv, S1039_2, g0, g3, g4, g5, s1, a1, e1, e2, bslR_mono, a2, s3, a3, S1039_3]
    subst hil
    try simp -implicitDefEqProofs (disch := first | omega | with_unfolding_all exact eqR (Eq.refl _)) [nums, -getElem!_pos, -Int.natCast_add, -Int.natCast_mul, -Int.natCast_ediv]
    refine ih (j + 1) _ H3 v3 _ (by omega) (by omega) ?_ ?_ ?_ hBout hw3 hplen hQ
    all_goals simp [g0]
theorem call_1039 {v : AV} {l : List Mo} {H : Heap} (hv : ML tM v l) (hl : l.length < 2 ^ 18) : Res (callI tab 39 [v] H) fun e H' => H' = H ∧ ML tM e (sortL l) := by
  have hf := hv.frz
  refine .hide fun Q hQ => .enter tab_1039 (by simp [AF1039]) (.inr (by simp [hf])) ?_
  simp -implicitDefEqProofs (disch := first | omega | with_unfolding_all exact eqR (Eq.refl _)) [nums, -getElem!_pos, -Int.natCast_add, -Int.natCast_mul, -Int.natCast_ediv, AF1039]
  refine l1039_5 hv hl (H0 := H.begin) (Nat.le_refl _) _ 0 _ _ (.vec 0 true []) [] rfl (by omega) ?_ ?_ ?_ .vec (.refl _) rfl fun σ' H' w' q3 ha ho => ?_
  any_goals (first | (simp; done) | skip)
  obtain ⟨e, H2, hz, hml, ho2⟩ := (ha.acc (H0 := H.begin) fun i h => h).frz ho (Nat.le_refl _) (Nat.le_refl _) 5
  have hnn := hml.nonew H.next 3
  have hws : H2.ws = [] := ho2.ws
  have hz' : Mach.frz H.next 6 H' w' = some (e, H2) := hz
  simp -implicitDefEqProofs (disch := first | omega | with_unfolding_all exact eqR (Eq.refl _)) [nums, -getElem!_pos, -Int.natCast_add, -Int.natCast_mul, -Int.natCast_ediv, S1039_6, q3, hz', wrap_quiet hws hnn]
  exact .mk (hQ _ _ ⟨rfl, by rw [List.drop_zero] at hml; exact hml⟩)
theorem l1008_1 {vo vg : AV} {out gens : List Mo} {m0 : Mo} {gi0 : Nat} (hvo : ML tM vo out) (hvg : ML tM vg gens) (hgi : gi0 < gens.length) (hm0 : gens[gi0] = m0) (hl : out.length ≤ 1000) {H0 : Heap} (hb : H0.base ≤ H0.next) : ∀ (m j : Nat) (σ : Sig) (H : Heap) (w : AV) (cur : List Mo), out.length - j = m → j ≤ out.length → σ 7 = vo → σ 8 = vg → σ 9 = .int .i64 (gi0 : Nat) → σ 10 = w → σ 11 = .int .i64 (j : Nat) → AccP tM (fun i => H0.next ≤ i) H w cur → Ow H0 H → cur.length ≤ 8 * j →
    (∀ σ' H' w', σ' 7 = vo → σ' 8 = vg → σ' 9 = .int .i64 (gi0 : Nat) → σ' 10 = w' → AccP tM (fun i => H0.next ≤ i) H' w' (cur ++ (out.drop j).flatMap fun a => splitL a m0) → Ow H0 H' → Res (ai (callI tab) s k .nrm σ' H') Q) →
    Res (li (callI tab) L1008_1 (.inBlock 2 :: s) k σ H) Q := by
  intro m
  induction m with
  | zero =>
    intro j σ H w cur hm hj h7 h8 h9 h10 h11 ha ho hlen hQ
    have hln := (hvo.rd H).1
    rw [List.drop_of_length_le (by omega)] at hQ
    obtain ⟨il, hil⟩ : ∃ x, x = Jtm.inLoop L1008_1 := ⟨_, rfl⟩; rw [li_eq' il hil]
    simp -implicitDefEqProofs (disch := first | omega | with_unfolding_all exact eqR (Eq.refl _)) [nums, -getElem!_pos, -Int.natCast_add, -Int.natCast_mul, -Int.natCast_ediv, L1008_1, h7, h8, h9, h10, h11, hln]
    subst hil
    try simp -implicitDefEqProofs (disch := first | omega | with_unfolding_all exact eqR (Eq.refl _)) [nums, -getElem!_pos, -Int.natCast_add, -Int.natCast_mul, -Int.natCast_ediv]
    refine hQ _ _ w ?_ ?_ ?_ ?_ (by simpa using ha) ho <;> simp [h7, h8, h9, h10]
  | succ m ih =>
    intro j σ H w cur hm hj h7 h8 h9 h10 h11 ha ho hlen hQ
    have hln := (hvo.rd H).1
    have hjl : j < out.length := by omega
    obtain ⟨p, e1, e2⟩ := ml_at hvo H hjl
    obtain ⟨q, e3, e4⟩ := ml_at hvg H hgi
    rw [hm0] at e4
    have hsl := splitL_len (a := out[j]) (m := m0)
    obtain ⟨e, H2, hc, hH, hml⟩ := call_1037 (a := out[j]) (m := m0) (H := H)
    subst hH
    have hsrc : srcA H2 8 e = some ((splitL out[j] m0).length, tM.row (splitL out[j] m0)) := by
      rcases hml with ⟨he, hl0⟩ | ⟨ex, he⟩
      · rw [he, hl0]; rfl
      · rw [he]
        have h3 : (tM.row (splitL out[j] m0)).length = (splitL out[j] m0).length * 8 := tM.row_length _
        simp only [srcA]; rw [if_pos h3]
    obtain ⟨w', H', a3, ha', d3⟩ := AccP_app ha hsrc ho.next (by omega)
    have hm2 : cur ++ (out.drop j).flatMap (fun a => splitL a m0) = (cur ++ splitL out[j] m0) ++ (out.drop (j + 1)).flatMap fun a => splitL a m0 := by rw [List.drop_eq_getElem_cons hjl, List.flatMap_cons, List.append_assoc]
    rw [hm2] at hQ
    obtain ⟨il, hil⟩ : ∃ x, x = Jtm.inLoop L1008_1 := ⟨_, rfl⟩; rw [li_eq' il hil]
    simp -implicitDefEqProofs (disch := first | omega | with_unfolding_all exact eqR (Eq.refl _)) [nums, -getElem!_pos, -Int.natCast_add, -Int.natCast_mul, -Int.natCast_ediv, L1008_1, S1008_0, h7, h8, h9, h10, h11, hln, e1, e2, e3, e4, hc, a3]
    subst hil
    try simp -implicitDefEqProofs (disch := first | omega | with_unfolding_all exact eqR (Eq.refl _)) [nums, -getElem!_pos, -Int.natCast_add, -Int.natCast_mul, -Int.natCast_ediv]
    refine ih (j + 1) _ H' w' _ (by omega) (by omega) ?_ ?_ ?_ ?_ ?_ ha' (d3.ow ho hb fun i h => h) (by rw [List.length_append]; omega) hQ
    all_goals simp [h7, h8, h9]
theorem l1008_5 {L : List Mo} (hB : ∀ r, Good L r → r.length ≤ 1000) {vg : AV} {G : List Mo} (hvg : ML tM vg G) (hG : ∀ m ∈ G, m ∈ L ∧ m.nn) (hGl : G.length < 2 ^ 30) {H0 : Heap} (hb : H0.base ≤ H0.next) : ∀ (m j : Nat) (σ : Sig) (H : Heap) (vo : AV) (out : List Mo), G.length - j = m → j ≤ G.length → σ 7 = vo → σ 8 = vg → σ 9 = .int .i64 (j : Nat) → ML tM vo out → Good L out → Ow H0 H →
    (∀ σ' H' vo', σ' 7 = vo' → ML tM vo' ((G.drop j).foldl stepR out) → Ow H0 H' → Res (ai (callI tab) s k .nrm σ' H') Q) →
    Res (li (callI tab) L1008_5 (.inBlock 0 :: s) k σ H) Q := by
  intro m
  induction m with
  | zero =>
    intro j σ H vo out hm hj h7 h8 h9 hvo hgd ho hQ
    have hln := (hvg.rd H).1
    rw [List.drop_of_length_le (by omega)] at hQ
    obtain ⟨il, hil⟩ : ∃ x, x = Jtm.inLoop L1008_5 := ⟨_, rfl⟩; rw [li_eq' il hil]
    simp -implicitDefEqProofs (disch := first | omega | with_unfolding_all exact eqR (Eq.refl _)) [nums, -getElem!_pos, -Int.natCast_add, -Int.natCast_mul, -Int.natCast_ediv, L1008_5, h7, h8, h9, hln]
    subst hil
    try simp -implicitDefEqProofs (disch := first | omega | with_unfolding_all exact eqR (Eq.refl _)) [nums, -getElem!_pos, -Int.natCast_add, -Int.natCast_mul, -Int.natCast_ediv]
    refine hQ _ _ vo ?_ hvo ho
    simp [h7]
  | succ m ih =>
    intro j σ H vo out hm hj h7 h8 h9 hvo hgd ho hQ
    have hln := (hvg.rd H).1
    have hjl : j < G.length := by omega
    have hmG := hG _ (List.getElem_mem hjl)
    have hlo := hB _ hgd
    have hg2 := (stepR_good hmG.1 hmG.2 hgd).1
    rw [List.drop_eq_getElem_cons hjl, List.foldl_cons] at hQ
    obtain ⟨il, hil⟩ : ∃ x, x = Jtm.inLoop L1008_5 := ⟨_, rfl⟩; rw [li_eq' il hil]
    simp -implicitDefEqProofs (disch := first | omega | with_unfolding_all exact eqR (Eq.refl _)) [nums, -getElem!_pos, -Int.natCast_add, -Int.natCast_mul, -Int.natCast_ediv, L1008_5, S1008_4, h7, h8, h9, hln]
    refine l1008_1 (m0 := G[j]) hvo hvg hjl rfl hlo hb _ 0 _ _ (.vec 0 true []) [] rfl (by omega) ?_ ?_ ?_ ?_ ?_ .vec ho (by simp) fun σ1 H1 w1 g7 g8 g9 g10 ga go => ?_
    any_goals (first | (simp [h7, h8, h9]; done) | skip)
    rw [List.drop_zero, List.nil_append] at ga
    have hfl : (out.flatMap fun a => splitL a G[j]).length ≤ 8 * out.length := by
      rw [List.length_flatMap]
      have : ∀ (o : List Mo), (o.map fun a => (splitL a G[j]).length).sum ≤ 8 * o.length := fun o => by
        induction o with
        | nil => simp
        | cons a o ih =>
          have := splitL_len (a := a) (m := G[j])
          simp only [List.map_cons, List.sum_cons, List.length_cons]; omega
      exact this out
    simp -implicitDefEqProofs (disch := first | omega | with_unfolding_all exact eqR (Eq.refl _)) [nums, -getElem!_pos, -Int.natCast_add, -Int.natCast_mul, -Int.natCast_ediv, S1008_2, g7, g8, g9, g10]
    refine .call (call_1038L (ga.acc (H0 := H0) fun i h => h) go hb (by omega)) fun e H2 ⟨ho2, hml⟩ => ?_
    simp -implicitDefEqProofs (disch := first | omega | with_unfolding_all exact eqR (Eq.refl _)) [nums, -getElem!_pos, -Int.natCast_add, -Int.natCast_mul, -Int.natCast_ediv, S1008_3, g8, g9]
    subst hil
    try simp -implicitDefEqProofs (disch := first | omega | with_unfolding_all exact eqR (Eq.refl _)) [nums, -getElem!_pos, -Int.natCast_add, -Int.natCast_mul, -Int.natCast_ediv]
    refine ih (j + 1) _ H2 e (stepR out G[j]) (by omega) (by omega) ?_ ?_ ?_ hml hg2 ho2 hQ
    all_goals simp [g8]
theorem call_1008 {v : AV} {L : List Mo} {n : Nat} {H : Heap} (hv : ML tM v L) (hn : n ≤ 4) (hbx : ∀ m ∈ L, Box n m) (hL : L.length ≤ 8) : Res (callI tab 8 [v, .int .i64 n] H) fun e H' => H' = H ∧ ∃ w r, e = .tup [w, .int .i64 0] ∧ ML tM w r ∧ Irr L r := by
  have hf := hv.frz
  have c35 := fun H => call_1035 (H := H) hv hL hn hbx
  have hB := good_len hn hbx
  have hf0 : fillA Mo.zero.cells [] = some Mo.zero.cells := rfl
  have hag : AV.agg Mo.zero.cells = mono Mo.zero := rfl
  refine .hide fun Q hQ => .enter tab_1008 (by simp [AF1008]) (.inr (by simp [hf])) ?_
  simp -implicitDefEqProofs (disch := first | omega | with_unfolding_all exact eqR (Eq.refl _)) [nums, -getElem!_pos, -Int.natCast_add, -Int.natCast_mul, -Int.natCast_ediv, AF1008, c35, S1008_7, hf0, hag, bslR_mono]
  refine .call (call_55 hv (by omega)) fun e H1 ⟨hH, G, hG, hmin⟩ => ?_
  subst hH
  have hGl := hmin.len
  have hGm : ∀ m ∈ G, m ∈ L ∧ m.nn := fun m hm => ⟨hmin.sub hm, (hbx m (hmin.sub hm)).nn⟩
  simp -implicitDefEqProofs (disch := first | omega | with_unfolding_all exact eqR (Eq.refl _)) [nums, -getElem!_pos, -Int.natCast_add, -Int.natCast_mul, -Int.natCast_ediv]
  refine l1008_5 (L := L) hB hG hGm (by omega) (H0 := H.begin) (Nat.le_refl _) _ 0 _ _ (.vec 1 true Mo.zero.cells) [Mo.zero] rfl (by omega) ?_ ?_ ?_ (.inr ⟨true, rfl⟩) Good.one (.refl _) fun σ' H' vo q7 hvo ho => ?_
  any_goals (first | (simp; done) | skip)
  rw [List.drop_zero] at hvo
  have hgd := (foldR_good G [Mo.zero] hGm Good.one).1
  have hlr := hB _ hgd
  have hirr := sortL_irr (L := L) hGm (fun t => min_sem hmin hbx t) rfl
  simp -implicitDefEqProofs (disch := first | omega | with_unfolding_all exact eqR (Eq.refl _)) [nums, -getElem!_pos, -Int.natCast_add, -Int.natCast_mul, -Int.natCast_ediv, S1008_6, q7]
  refine .call (call_1039 hvo (by omega)) fun e2 H2 ⟨hH, hml⟩ => ?_
  subst hH
  have hf2 := hml.frz
  have hnn := hml.nonew H.next 2
  have hws : H2.ws = [] := ho.ws
  have hq : (AV.tup [e2, .int .i64 0]).noNew H.next 4 = true := by simp [hnn]
  simp -implicitDefEqProofs (disch := first | omega | with_unfolding_all exact eqR (Eq.refl _)) [nums, -getElem!_pos, -Int.natCast_add, -Int.natCast_mul, -Int.natCast_ediv, hf2, wrap_quiet hws hq]
  exact .mk (hQ _ _ ⟨rfl, e2, _, rfl, hml, hirr⟩)
end
end Ytl
end Go.Mach
set_option linter.unusedSimpArgs false
set_option linter.unusedVariables false
set_option maxRecDepth 100000
namespace Go.Mach.Ytl
open Go.Mach
section
variable {s : List Jtm} {k : KF} {Q : AV → Heap → Prop}
attribute [local simp] guardI_u
theorem l1010_2 {vP x7 : AV} {P : List Mo} (hv : ML tM vP P) (hl : P.length < 2 ^ 30) {t : Nat} (ht : t < 256) {H0 : Heap} (hb : H0.base ≤ H0.next) {w : AV} {cur : List Int} (hcl : cur.length < 2 ^ 20) {H : Heap} (ha : Acc tB H0 H w cur) (ho : Ow H0 H) : ∀ (m j : Nat) (σ : Sig), P.length - j = m → j ≤ P.length → σ 6 = vP → σ 7 = x7 → σ 8 = w → σ 9 = .int .i64 (t : Nat) → σ 10 = .int .i64 (j : Nat) →
    (∀ σ' H' w', σ' 6 = vP → σ' 7 = x7 → σ' 8 = w' → σ' 9 = .int .i64 (t : Nat) → Acc tB H0 H' w' (if ((P.drop j).any fun a => decide (supN a = t)) then cur ++ [((t : Nat) : Int)] else cur) → Ow H0 H' → Res (ai (callI tab) s k .nrm σ' H') Q) →
    Res (li (callI tab) L1010_2 (.inBlock 2 :: s) k σ H) Q := by
  intro m
  have hln := (hv.rd H).1
  induction m with
  | zero =>
    intro j σ hm hj h6 h7 h8 h9 h10 hQ
    rw [List.drop_of_length_le (by omega)] at hQ
    obtain ⟨il, hil⟩ : ∃ x, x = Jtm.inLoop L1010_2 := ⟨_, rfl⟩; rw [li_eq' il hil]
    simp -implicitDefEqProofs (disch := first | omega | with_unfolding_all exact eqR (Eq.refl _)) [nums, -getElem!_pos, -Int.natCast_add, -Int.natCast_mul, -Int.natCast_ediv, L1010_2, h6, h7, h8, h9, h10, hln]
    subst hil
    try simp -implicitDefEqProofs (disch := first | omega | with_unfolding_all exact eqR (Eq.refl _)) [nums, -getElem!_pos, -Int.natCast_add, -Int.natCast_mul, -Int.natCast_ediv]
    refine hQ _ H w ?_ ?_ ?_ ?_ ha ho <;> simp [h6, h7, h8, h9]
  | succ m ih =>
    intro j σ hm hj h6 h7 h8 h9 h10 hQ
    have hjl : j < P.length := by omega
    obtain ⟨p, e1, e2⟩ := ml_at hv H hjl
    have hw : IntKind.i64.wrap ((supN P[j] : Nat) : Int) = (supN P[j] : Nat) := wrap_nat (by have := supN_lt P[j]; omega)
    rw [List.drop_eq_getElem_cons hjl, List.any_cons] at hQ
    by_cases hc : supN P[j] = t
    · rw [decide_eq_true hc, Bool.true_or, if_pos rfl] at hQ
      have hcc : (((supN P[j] : Nat) : Int) == ((t : Nat) : Int)) = true := by rw [hc]; simp
      have hw8 : IntKind.u8.wrap ((t : Nat) : Int) = (t : Nat) := wrap8 (by omega)
      obtain ⟨w', H', e3, ha', ho'⟩ := ha.app (m := [((t : Nat) : Int)]) (bs := 1) (ex := true) (n := 1) ho hb (by simp) rfl (by simp; omega)
      have e3' : appA H 1 1 w (.vec 1 true [.int .u8 (t : Nat)]) = some (w', H') := e3
      obtain ⟨il, hil⟩ : ∃ x, x = Jtm.inLoop L1010_2 := ⟨_, rfl⟩; rw [li_eq' il hil]
      simp -implicitDefEqProofs (disch := first | omega | with_unfolding_all exact eqR (Eq.refl _)) [nums, -getElem!_pos, -Int.natCast_add, -Int.natCast_mul, -Int.natCast_ediv, L1010_2, S1010_1, h6, h7, h8, h9, h10, hln, e1, e2, call_44', hw, hcc, hw8, bslR_u8, e3']
      subst hil
      try simp -implicitDefEqProofs (disch := first | omega | with_unfolding_all exact eqR (Eq.refl _)) [nums, -getElem!_pos, -Int.natCast_add, -Int.natCast_mul, -Int.natCast_ediv]
      refine hQ _ H' w' ?_ ?_ ?_ ?_ ha' ho' <;> simp [h6, h7, h8, h9]
    · rw [decide_eq_false hc, Bool.false_or] at hQ
      have hcc : (((supN P[j] : Nat) : Int) == ((t : Nat) : Int)) = false := by simp; omega
      obtain ⟨il, hil⟩ : ∃ x, x = Jtm.inLoop L1010_2 := ⟨_, rfl⟩; rw [li_eq' il hil]
      simp -implicitDefEqProofs (disch := first | omega | with_unfolding_all exact eqR (Eq.refl _)) [nums, -getElem!_pos, -Int.natCast_add, -Int.natCast_mul, -Int.natCast_ediv, L1010_2, S1010_1, h6, h7, h8, h9, h10, hln, e1, e2, call_44', hw, hcc, S1010_0]
      subst hil
      try simp -implicitDefEqProofs (disch := first | omega | with_unfolding_all exact eqR (Eq.refl _)) [nums, -getElem!_pos, -Int.natCast_add, -Int.natCast_mul, -Int.natCast_ediv]
      refine ih (j + 1) _ (by omega) (by omega) ?_ ?_ ?_ ?_ ?_ hQ
      all_goals simp [h6, h7, h8, h9]
def setF (P : List Mo) (t : Nat) : Bool := P.any fun a => decide (supN a = t)
theorem l1010_5 {vP x7 : AV} {P : List Mo} (hv : ML tM vP P) (hl : P.length < 2 ^ 30) {H0 : Heap} (hb : H0.base ≤ H0.next) : ∀ (m j : Nat) (σ : Sig) (H : Heap) (w : AV), 256 - j = m → j ≤ 256 → σ 6 = vP → σ 7 = x7 → σ 8 = w → σ 9 = .int .i64 (j : Nat) → Acc tB H0 H w (((List.range j).filter (setF P)).map fun s : Nat => ((s : Nat) : Int)) → Ow H0 H →
    (∀ σ' H' w', σ' 7 = x7 → σ' 8 = w' → Acc tB H0 H' w' (((List.range 256).filter (setF P)).map fun s : Nat => ((s : Nat) : Int)) → Ow H0 H' → Res (ai (callI tab) s k .nrm σ' H') Q) →
    Res (li (callI tab) L1010_5 (.inBlock 0 :: s) k σ H) Q := by
  intro m
  induction m with
  | zero =>
    intro j σ H w hm hj h6 h7 h8 h9 ha ho hQ
    have : j = 256 := by omega
    subst this
    obtain ⟨il, hil⟩ : ∃ x, x = Jtm.inLoop L1010_5 := ⟨_, rfl⟩; rw [li_eq' il hil]
    simp -implicitDefEqProofs (disch := first | omega | with_unfolding_all exact eqR (Eq.refl _)) [nums, -getElem!_pos, -Int.natCast_add, -Int.natCast_mul, -Int.natCast_ediv, L1010_5, h6, h7, h8, h9]
    subst hil
    try simp -implicitDefEqProofs (disch := first | omega | with_unfolding_all exact eqR (Eq.refl _)) [nums, -getElem!_pos, -Int.natCast_add, -Int.natCast_mul, -Int.natCast_ediv]
    refine hQ _ H w ?_ ?_ ha ho <;> simp [h7, h8]
  | succ m ih =>
    intro j σ H w hm hj h6 h7 h8 h9 ha ho hQ
    have hjl : j < 256 := by omega
    have c256 : ((j : Nat) : Int) < 256 := by omega
    have hr : (List.range (j + 1)).filter (setF P) = (List.range j).filter (setF P) ++ if setF P j then [j] else [] := by
      rw [List.range_succ, List.filter_append]
      congr 1
      by_cases h : setF P j = true
      · rw [if_pos h, List.filter_cons_of_pos h]; rfl
      · rw [if_neg h, List.filter_cons_of_neg h]; rfl
    have hfl : ((List.range j).filter (setF P)).length ≤ j := by have := List.length_filter_le (setF P) (List.range j); simpa using this
    obtain ⟨il, hil⟩ : ∃ x, x = Jtm.inLoop L1010_5 := ⟨_, rfl⟩; rw [li_eq' il hil]
    simp -implicitDefEqProofs (disch := first | omega | with_unfolding_all exact eqR (Eq.refl _)) [nums, -getElem!_pos, -Int.natCast_add, -Int.natCast_mul, -Int.natCast_ediv, L1010_5, S1010_4, h6, h7, h8, h9, c256]
    refine l1010_2 (x7 := x7) hv hl hjl hb (w := w) (by simp; omega) ha ho _ 0 _ rfl (by omega) ?_ ?_ ?_ ?_ ?_ fun σ1 H1 w1 g6 g7 g8 g9 ga go => ?_
    any_goals (first | (simp [h6, h7, h8, h9]; done) | skip)
    rw [List.drop_zero] at ga
    have hst : (P.any fun a => decide (supN a = j)) = setF P j := rfl
    rw [hst] at ga
    simp -implicitDefEqProofs (disch := first | omega | with_unfolding_all exact eqR (Eq.refl _)) [nums, -getElem!_pos, -Int.natCast_add, -Int.natCast_mul, -Int.natCast_ediv, S1010_3, g6, g7, g8, g9]
    subst hil
    try simp -implicitDefEqProofs (disch := first | omega | with_unfolding_all exact eqR (Eq.refl _)) [nums, -getElem!_pos, -Int.natCast_add, -Int.natCast_mul, -Int.natCast_ediv]
    refine ih (j + 1) _ H1 w1 (by omega) (by omega) ?_ ?_ ?_ ?_ ?_ go hQ
    any_goals (first | (simp [g6, g7, g8, g9]; done) | skip)
    rw [hr, List.map_append]
    cases hk : setF P j with
    | true => rw [hk, if_pos rfl] at ga; exact ga
    | false => rw [hk] at ga; simpa using ga
theorem call_1010 {v : AV} {L : List Mo} {n : Nat} {H : Heap} (hv : ML tM v L) (hn : n ≤ 4) (hbx : ∀ m ∈ L, Box n m) (hL : L.length ≤ 8) : Res (callI tab 10 [v, .int .i64 n] H) fun e H' => H' = H ∧ ∃ P S w, Irr L P ∧ e = .tup [w, .int .i64 0] ∧ ML tB w S ∧ Sets P S := by
  have hf := hv.frz
  have hB := good_len hn hbx
  refine .hide fun Q hQ => .enter tab_1010 (by simp [AF1010]) (.inr (by simp [hf])) ?_
  simp -implicitDefEqProofs (disch := first | omega | with_unfolding_all exact eqR (Eq.refl _)) [nums, -getElem!_pos, -Int.natCast_add, -Int.natCast_mul, -Int.natCast_ediv, AF1010]
  refine .call (call_1008 hv hn hbx hL) fun e H1 ⟨hH, w, P, he, hml, hirr⟩ => ?_
  subst hH he
  have hlP := hB _ hirr.good
  simp -implicitDefEqProofs (disch := first | omega | with_unfolding_all exact eqR (Eq.refl _)) [nums, -getElem!_pos, -Int.natCast_add, -Int.natCast_mul, -Int.natCast_ediv]
  refine l1010_5 (x7 := .int .i64 0) hml (by omega) (H0 := H.begin) (Nat.le_refl _) _ 0 _ _ (.vec 0 true []) rfl (by omega) ?_ ?_ ?_ ?_ .vec (.refl _) fun σ' H' w' q7 q8 ha ho => ?_
  any_goals (first | (simp; done) | skip)
  obtain ⟨e, H2, hz, hml2, ho2⟩ := ha.frz ho (Nat.le_refl _) (Nat.le_refl _) 4
  have hnn := hml2.nonew H.next 2
  have hws : H2.ws = [] := ho2.ws
  have hq : (AV.tup [e, .int .i64 0]).noNew H.next 4 = true := by simp [hnn]
  have hz' : Mach.frz H.next 5 H' w' = some (e, H2) := hz
  simp -implicitDefEqProofs (disch := first | omega | with_unfolding_all exact eqR (Eq.refl _)) [nums, -getElem!_pos, -Int.natCast_add, -Int.natCast_mul, -Int.natCast_ediv, S1010_6, q7, q8, hz', wrap_quiet hws hq]
  refine .mk (hQ _ _ ⟨rfl, P, _, e, hirr, rfl, hml2, ⟨?_, fun x => ?_⟩⟩)
  · rw [List.pairwise_map]
    exact (List.pairwise_lt_range.sublist List.filter_sublist).imp fun h => by omega
  · simp only [List.mem_map, List.mem_filter, List.mem_range, setF, List.any_eq_true, decide_eq_true_eq]
    constructor
    · rintro ⟨t, ⟨_, a, ha, e⟩, rfl⟩; exact ⟨a, ha, by rw [e]⟩
    · rintro ⟨a, ha, e⟩; exact ⟨supN a, ⟨supN_lt a, a, ha, rfl⟩, e⟩
theorem l1012_2 {vS x7 : AV} {S : List Int} (hv : ML tB vS S) (hl : S.length < 2 ^ 20) (hn : S.Pairwise (· < ·)) {i : Nat} (hi : i < S.length) {H0 : Heap} (hb : H0.base ≤ H0.next) {w : AV} {cur : List Int} (hcl : cur.length < 2 ^ 20) {H : Heap} (ha : Acc tB H0 H w cur) (ho : Ow H0 H) : ∀ (m j : Nat) (σ : Sig), S.length - j = m → j ≤ S.length → σ 6 = vS → σ 7 = x7 → σ 8 = w → σ 9 = .int .i64 (i : Nat) → σ 10 = .int .i64 (j : Nat) →
    (∀ σ' H' w', σ' 6 = vS → σ' 7 = x7 → σ' 8 = w' → σ' 9 = .int .i64 (i : Nat) → Acc tB H0 H' w' (if ((S.drop j).any fun t => !(t == S[i]) && (andNotK .u8 t S[i] == 0)) then cur ++ [S[i]] else cur) → Ow H0 H' → Res (ai (callI tab) s k .nrm σ' H') Q) →
    Res (li (callI tab) L1012_2 (.inBlock 2 :: s) k σ H) Q := by
  intro m
  have hln := (hv.rd H).1
  induction m with
  | zero =>
    intro j σ hm hj h6 h7 h8 h9 h10 hQ
    rw [List.drop_of_length_le (by omega)] at hQ
    obtain ⟨il, hil⟩ : ∃ x, x = Jtm.inLoop L1012_2 := ⟨_, rfl⟩; rw [li_eq' il hil]
    simp -implicitDefEqProofs (disch := first | omega | with_unfolding_all exact eqR (Eq.refl _)) [nums, -getElem!_pos, -Int.natCast_add, -Int.natCast_mul, -Int.natCast_ediv, L1012_2, h6, h7, h8, h9, h10, hln]
    subst hil
    try simp -implicitDefEqProofs (disch := first | omega | with_unfolding_all exact eqR (Eq.refl _)) [nums, -getElem!_pos, -Int.natCast_add, -Int.natCast_mul, -Int.natCast_ediv]
    refine hQ _ H w ?_ ?_ ?_ ?_ ha ho <;> simp [h6, h7, h8, h9]
  | succ m ih =>
    intro j σ hm hj h6 h7 h8 h9 h10 hQ
    have hjl : j < S.length := by omega
    obtain ⟨p, e1, e2⟩ := mb_at hv H hjl
    obtain ⟨p', e3, e4⟩ := mb_at hv H hi
    rw [List.drop_eq_getElem_cons hjl, List.any_cons] at hQ
    by_cases hij : j = i
    · subst hij
      have e0 : (!(S[j] == S[j]) && (andNotK .u8 S[j] S[j] == 0)) = false := by simp
      rw [e0, Bool.false_or] at hQ
      have hjj : (((j : Nat) : Int) == ((j : Nat) : Int)) = true := by simp
      obtain ⟨il, hil⟩ : ∃ x, x = Jtm.inLoop L1012_2 := ⟨_, rfl⟩; rw [li_eq' il hil]
      simp -implicitDefEqProofs (disch := first | omega | with_unfolding_all exact eqR (Eq.refl _)) [nums, -getElem!_pos, -Int.natCast_add, -Int.natCast_mul, -Int.natCast_ediv, L1012_2, S1012_1, h6, h7, h8, h9, h10, hln, hjj, S1012_0]
      subst hil
      try simp -implicitDefEqProofs (disch := first | omega | with_unfolding_all exact eqR (Eq.refl _)) [nums, -getElem!_pos, -Int.natCast_add, -Int.natCast_mul, -Int.natCast_ediv]
      refine ih (j + 1) _ (by omega) (by omega) ?_ ?_ ?_ ?_ ?_ hQ
      all_goals simp [h6, h7, h8, h9]
    · have hne : S[j] ≠ S[i] := fun e => by
        have h1 := List.pairwise_iff_getElem.1 hn
        by_cases hlt : j < i
        · have := h1 j i hjl hi hlt; omega
        · have := h1 i j hi hjl (by omega); omega
      have e0 : (S[j] == S[i]) = false := by simpa using hne
      rw [e0, Bool.not_false, Bool.true_and] at hQ
      have hjj : (((j : Nat) : Int) == ((i : Nat) : Int)) = false := by simp; omega
      cases hc : andNotK .u8 S[j] S[i] == 0 with
      | true =>
        rw [hc, Bool.true_or, if_pos rfl] at hQ
        obtain ⟨w', H', e5, ha', ho'⟩ := ha.app (m := [S[i]]) (bs := 1) (ex := true) (n := 1) ho hb (by simp) rfl (by simp; omega)
        have e5' : appA H 1 1 w (.vec 1 true [.int .u8 S[i]]) = some (w', H') := e5
        obtain ⟨il, hil⟩ : ∃ x, x = Jtm.inLoop L1012_2 := ⟨_, rfl⟩; rw [li_eq' il hil]
        simp -implicitDefEqProofs (disch := first | omega | with_unfolding_all exact eqR (Eq.refl _)) [nums, -getElem!_pos, -Int.natCast_add, -Int.natCast_mul, -Int.natCast_ediv, L1012_2, S1012_1, h6, h7, h8, h9, h10, hln, hjj, e1, e2, e3, e4, hc, bslR_u8, e5']
        subst hil
        try simp -implicitDefEqProofs (disch := first | omega | with_unfolding_all exact eqR (Eq.refl _)) [nums, -getElem!_pos, -Int.natCast_add, -Int.natCast_mul, -Int.natCast_ediv]
        refine hQ _ H' w' ?_ ?_ ?_ ?_ ha' ho' <;> simp [h6, h7, h8, h9]
      | false =>
        rw [hc, Bool.false_or] at hQ
        obtain ⟨il, hil⟩ : ∃ x, x = Jtm.inLoop L1012_2 := ⟨_, rfl⟩; rw [li_eq' il hil]
        simp -implicitDefEqProofs (disch := first | omega | with_unfolding_all exact eqR (Eq.refl _)) [nums, -getElem!_pos, -Int.natCast_add, -Int.natCast_mul, -Int.natCast_ediv, L1012_2, S1012_1, h6, h7, h8, h9, h10, hln, hjj, e1, e2, e3, e4, hc, S1012_0]
        subst hil
        try simp -implicitDefEqProofs (disch := first | omega | with_unfolding_all exact eqR (Eq.refl _)) [nums, -getElem!_pos, -Int.natCast_add, -Int.natCast_mul, -Int.natCast_ediv]
        refine ih (j + 1) _ (by omega) (by omega) ?_ ?_ ?_ ?_ ?_ hQ
        all_goals simp [h6, h7, h8, h9]
theorem l1012_5 {vS x7 : AV} {S : List Int} (hv : ML tB vS S) (hl : S.length < 2 ^ 19) (hn : S.Pairwise (· < ·)) {H0 : Heap} (hb : H0.base ≤ H0.next) : ∀ (m j : Nat) (σ : Sig) (H : Heap) (w : AV), S.length - j = m → j ≤ S.length → σ 6 = vS → σ 7 = x7 → σ 8 = w → σ 9 = .int .i64 (j : Nat) → Acc tB H0 H w ((S.take j).filter (embB S)) → Ow H0 H →
    (∀ σ' H' w', σ' 7 = x7 → σ' 8 = w' → Acc tB H0 H' w' (S.filter (embB S)) → Ow H0 H' → Res (ai (callI tab) s k .nrm σ' H') Q) →
    Res (li (callI tab) L1012_5 (.inBlock 0 :: s) k σ H) Q := by
  intro m
  induction m with
  | zero =>
    intro j σ H w hm hj h6 h7 h8 h9 ha ho hQ
    have hln := (hv.rd H).1
    rw [List.take_of_length_le (by omega)] at ha
    obtain ⟨il, hil⟩ : ∃ x, x = Jtm.inLoop L1012_5 := ⟨_, rfl⟩; rw [li_eq' il hil]
    simp -implicitDefEqProofs (disch := first | omega | with_unfolding_all exact eqR (Eq.refl _)) [nums, -getElem!_pos, -Int.natCast_add, -Int.natCast_mul, -Int.natCast_ediv, L1012_5, h6, h7, h8, h9, hln]
    subst hil
    try simp -implicitDefEqProofs (disch := first | omega | with_unfolding_all exact eqR (Eq.refl _)) [nums, -getElem!_pos, -Int.natCast_add, -Int.natCast_mul, -Int.natCast_ediv]
    refine hQ _ H w ?_ ?_ ha ho <;> simp [h7, h8]
  | succ m ih =>
    intro j σ H w hm hj h6 h7 h8 h9 ha ho hQ
    have hln := (hv.rd H).1
    have hjl : j < S.length := by omega
    have f1 := filter_succ (p := embB S) hjl
    have hfl : ((S.take j).filter (embB S)).length ≤ j := by
      have h1 := List.length_filter_le (embB S) (S.take j)
      rw [List.length_take] at h1; omega
    obtain ⟨il, hil⟩ : ∃ x, x = Jtm.inLoop L1012_5 := ⟨_, rfl⟩; rw [li_eq' il hil]
    simp -implicitDefEqProofs (disch := first | omega | with_unfolding_all exact eqR (Eq.refl _)) [nums, -getElem!_pos, -Int.natCast_add, -Int.natCast_mul, -Int.natCast_ediv, L1012_5, S1012_4, h6, h7, h8, h9, hln]
    refine l1012_2 (x7 := x7) hv (by omega) hn hjl hb (w := w) (by omega) ha ho _ 0 _ rfl (by omega) ?_ ?_ ?_ ?_ ?_ fun σ1 H1 w1 g6 g7 g8 g9 ga go => ?_
    any_goals (first | (simp [h6, h7, h8, h9]; done) | skip)
    rw [List.drop_zero] at ga
    have hst : (S.any fun t => !(t == S[j]) && (andNotK .u8 t S[j] == 0)) = embB S S[j] := rfl
    rw [hst] at ga
    simp -implicitDefEqProofs (disch := first | omega | with_unfolding_all exact eqR (Eq.refl _)) [nums, -getElem!_pos, -Int.natCast_add, -Int.natCast_mul, -Int.natCast_ediv, S1012_3, g6, g7, g8, g9]
    subst hil
    try simp -implicitDefEqProofs (disch := first | omega | with_unfolding_all exact eqR (Eq.refl _)) [nums, -getElem!_pos, -Int.natCast_add, -Int.natCast_mul, -Int.natCast_ediv]
    refine ih (j + 1) _ H1 w1 (by omega) (by omega) ?_ ?_ ?_ ?_ ?_ go hQ
    any_goals (first | (simp [g6, g7, g8, g9]; done) | skip)
    rw [f1]
    cases hk : embB S S[j] with
    | true => rw [hk, if_pos rfl] at ga; exact ga
    | false => rw [hk] at ga; simpa using ga
theorem Sets.len {P : List Mo} {S : List Int} (h : Sets P S) : S.length ≤ P.length := by
  have h1 := List.nodup_iff_pairwise_ne.2 (h.asc.imp fun h => by omega)
  have : S.length ≤ (P.map fun a => ((supN a : Nat) : Int)).length := nodup_lenI h1 fun s hs => by
    obtain ⟨a, ha, e⟩ := (h.mem s).1 hs
    exact List.mem_map.2 ⟨a, ha, e⟩
  rwa [List.length_map] at this
theorem call_1012 {v : AV} {L : List Mo} {n : Nat} {H : Heap} (hv : ML tM v L) (hn : n ≤ 4) (hbx : ∀ m ∈ L, Box n m) (hL : L.length ≤ 8) : Res (callI tab 12 [v, .int .i64 n] H) fun e H' => H' = H ∧ ∃ P S w, Irr L P ∧ e = .tup [w, .int .i64 0] ∧ ML tB w (S.filter (embB S)) ∧ Sets P S := by
  have hf := hv.frz
  have hB := good_len hn hbx
  refine .hide fun Q hQ => .enter tab_1012 (by simp [AF1012]) (.inr (by simp [hf])) ?_
  simp -implicitDefEqProofs (disch := first | omega | with_unfolding_all exact eqR (Eq.refl _)) [nums, -getElem!_pos, -Int.natCast_add, -Int.natCast_mul, -Int.natCast_ediv, AF1012]
  refine .call (call_1010 hv hn hbx hL) fun e H1 ⟨hH, P, S, w, hirr, he, hml, hs⟩ => ?_
  subst hH he
  have hlP := hB _ hirr.good
  have hlS := hs.len
  simp -implicitDefEqProofs (disch := first | omega | with_unfolding_all exact eqR (Eq.refl _)) [nums, -getElem!_pos, -Int.natCast_add, -Int.natCast_mul, -Int.natCast_ediv]
  refine l1012_5 (x7 := .int .i64 0) hml (by omega) hs.asc (H0 := H.begin) (Nat.le_refl _) _ 0 _ _ (.vec 0 true []) rfl (by omega) ?_ ?_ ?_ ?_ .vec (.refl _) fun σ' H' w' q7 q8 ha ho => ?_
  any_goals (first | (simp; done) | skip)
  obtain ⟨e, H2, hz, hml2, ho2⟩ := ha.frz ho (Nat.le_refl _) (Nat.le_refl _) 4
  have hnn := hml2.nonew H.next 2
  have hws : H2.ws = [] := ho2.ws
  have hq : (AV.tup [e, .int .i64 0]).noNew H.next 4 = true := by simp [hnn]
  have hz' : Mach.frz H.next 5 H' w' = some (e, H2) := hz
  simp -implicitDefEqProofs (disch := first | omega | with_unfolding_all exact eqR (Eq.refl _)) [nums, -getElem!_pos, -Int.natCast_add, -Int.natCast_mul, -Int.natCast_ediv, S1012_6, q7, q8, hz', wrap_quiet hws hq]
  exact .mk (hQ _ _ ⟨rfl, P, S, e, hirr, rfl, hml2, hs⟩)
theorem grp_take {P : List Mo} {s : Int} {j : Nat} (hj : j < P.length) : grpL (P.take (j + 1)) s = grpL (P.take j) s ++ if ((supN P[j] : Nat) : Int) = s then [P[j]] else [] := by
  unfold grpL
  rw [filter_succ hj]
  congr 1
  by_cases h : ((supN P[j] : Nat) : Int) = s
  · rw [if_pos h, if_pos (by simpa using h)]
  · rw [if_neg h, if_neg (by simpa using h)]
theorem l1014_2 {n : Nat} (hn4 : n ≤ 4) {vP vS x7 x9 x10 : AV} {P : List Mo} {S : List Int} (hv : ML tM vP P) (hS : ML tB vS S) (hbx : ∀ a ∈ P, Box n a) (hl : P.length < 2 ^ 30) {i : Nat} (hi : i < S.length) {H : Heap} : ∀ (m j : Nat) (σ : Sig) (w : AV) (r : List Mo), P.length - j = m → j ≤ P.length → σ 6 = vP → σ 7 = x7 → σ 8 = vS → σ 9 = x9 → σ 10 = x10 → σ 11 = .int .i64 (i : Nat) → σ 12 = w → σ 13 = .int .i64 (j : Nat) → ML tM w r → Mg (grpL (P.take j) S[i]) r →
    (∀ σ' w' r', σ' 6 = vP → σ' 7 = x7 → σ' 8 = vS → σ' 9 = x9 → σ' 10 = x10 → σ' 11 = .int .i64 (i : Nat) → σ' 12 = w' → ML tM w' r' → Mg (grpL P S[i]) r' → Res (ai (callI tab) s k .nrm σ' H) Q) →
    Res (li (callI tab) L1014_2 (.inBlock 2 :: s) k σ H) Q := by
  intro m
  have hln := (hv.rd H).1
  induction m with
  | zero =>
    intro j σ w r hm hj h6 h7 h8 h9 h10 h11 h12 h13 hw hmg hQ
    rw [List.take_of_length_le (by omega)] at hmg
    obtain ⟨il, hil⟩ : ∃ x, x = Jtm.inLoop L1014_2 := ⟨_, rfl⟩; rw [li_eq' il hil]
    simp -implicitDefEqProofs (disch := first | omega | with_unfolding_all exact eqR (Eq.refl _)) [nums, -getElem!_pos, -Int.natCast_add, -Int.natCast_mul, -Int.natCast_ediv, L1014_2, h6, h7, h8, h9, h10, h11, h12, h13, hln]
    subst hil
    try simp -implicitDefEqProofs (disch := first | omega | with_unfolding_all exact eqR (Eq.refl _)) [nums, -getElem!_pos, -Int.natCast_add, -Int.natCast_mul, -Int.natCast_ediv]
    refine hQ _ w r ?_ ?_ ?_ ?_ ?_ ?_ ?_ hw hmg <;> simp [h6, h7, h8, h9, h10, h11, h12]
  | succ m ih =>
    intro j σ w r hm hj h6 h7 h8 h9 h10 h11 h12 h13 hw hmg hQ
    have hjl : j < P.length := by omega
    obtain ⟨p, e1, e2⟩ := ml_at hv H hjl
    obtain ⟨p', e3, e4⟩ := mb_at hS H hi
    have hgt := grp_take (s := S[i]) hjl
    by_cases hc : ((supN P[j] : Nat) : Int) = S[i]
    · rw [if_pos hc] at hgt
      have hcc : (((supN P[j] : Nat) : Int) == S[i]) = true := by simpa using hc
      have hbr : ∀ a ∈ grpL (P.take j) S[i], Box n a := fun a ha => hbx a (List.mem_of_mem_take (grp_mem.1 ha).1)
      have hlr := (hmg.mt hbr).len hn4
      have hlp := powL_len (a := P[j])
      obtain ⟨il, hil⟩ : ∃ x, x = Jtm.inLoop L1014_2 := ⟨_, rfl⟩; rw [li_eq' il hil]
      simp -implicitDefEqProofs (disch := first | omega | with_unfolding_all exact eqR (Eq.refl _)) [nums, -getElem!_pos, -Int.natCast_add, -Int.natCast_mul, -Int.natCast_ediv, L1014_2, S1014_1, h6, h7, h8, h9, h10, h11, h12, h13, hln, e1, e2, e3, e4, call_44', hcc]
      refine .call (call_96 (a := P[j])) fun e H2 ⟨hH, hml⟩ => ?_
      subst hH
      simp -implicitDefEqProofs (disch := first | omega | with_unfolding_all exact eqR (Eq.refl _)) [nums, -getElem!_pos, -Int.natCast_add, -Int.natCast_mul, -Int.natCast_ediv, h12]
      refine .call (call_59 hw hml (by omega) (by omega) (by have := Nat.mul_le_mul hlr hlp; omega)) fun e9 H3 ⟨hH, r', hr', hmin⟩ => ?_
      subst hH
      simp -implicitDefEqProofs (disch := first | omega | with_unfolding_all exact eqR (Eq.refl _)) [nums, -getElem!_pos, -Int.natCast_add, -Int.natCast_mul, -Int.natCast_ediv, S1014_0, h6, h7, h8, h9, h10, h11, h13]
      subst hil
      try simp -implicitDefEqProofs (disch := first | omega | with_unfolding_all exact eqR (Eq.refl _)) [nums, -getElem!_pos, -Int.natCast_add, -Int.natCast_mul, -Int.natCast_ediv]
      refine ih (j + 1) _ e9 r' (by omega) (by omega) ?_ ?_ ?_ ?_ ?_ ?_ ?_ ?_ hr' (by rw [hgt]; exact hmg.next hmin) hQ
      all_goals simp [h6, h7, h8, h9, h10, h11]
    · rw [if_neg hc, List.append_nil] at hgt
      have hcc : (((supN P[j] : Nat) : Int) == S[i]) = false := by simpa using hc
      obtain ⟨il, hil⟩ : ∃ x, x = Jtm.inLoop L1014_2 := ⟨_, rfl⟩; rw [li_eq' il hil]
      simp -implicitDefEqProofs (disch := first | omega | with_unfolding_all exact eqR (Eq.refl _)) [nums, -getElem!_pos, -Int.natCast_add, -Int.natCast_mul, -Int.natCast_ediv, L1014_2, S1014_1, h6, h7, h8, h9, h10, h11, h12, h13, hln, e1, e2, e3, e4, call_44', hcc, S1014_0]
      subst hil
      try simp -implicitDefEqProofs (disch := first | omega | with_unfolding_all exact eqR (Eq.refl _)) [nums, -getElem!_pos, -Int.natCast_add, -Int.natCast_mul, -Int.natCast_ediv]
      refine ih (j + 1) _ w r (by omega) (by omega) ?_ ?_ ?_ ?_ ?_ ?_ ?_ ?_ hw (by rw [hgt]; exact hmg) hQ
      all_goals simp [h6, h7, h8, h9, h10, h11, h12]
theorem l1014_6 {n : Nat} (hn4 : n ≤ 4) {vP vS x7 x9 : AV} {P : List Mo} {S : List Int} (hv : ML tM vP P) (hS : ML tB vS S) (hbx : ∀ a ∈ P, Box n a) (hl : P.length < 2 ^ 30) (hlS : S.length < 2 ^ 20) {H0 : Heap} (hb : H0.base ≤ H0.next) : ∀ (m j : Nat) (σ : Sig) (H : Heap) (w : AV) (cur : List PV), S.length - j = m → j ≤ S.length → σ 6 = vP → σ 7 = x7 → σ 8 = vS → σ 9 = x9 → σ 10 = w → σ 11 = .int .i64 (j : Nat) → Acc tP H0 H w cur → Ow H0 H → cur.map PV.s = S.take j → (∀ x ∈ cur, Mg (grpL P x.s) x.l) →
    (∀ σ' H' w' parts, σ' 7 = x7 → σ' 10 = w' → Acc tP H0 H' w' parts → Ow H0 H' → parts.map PV.s = S → (∀ x ∈ parts, Mg (grpL P x.s) x.l) → Res (ai (callI tab) s k .nrm σ' H') Q) →
    Res (li (callI tab) L1014_6 (.inBlock 0 :: s) k σ H) Q := by
  intro m
  induction m with
  | zero =>
    intro j σ H w cur hm hj h6 h7 h8 h9 h10 h11 ha ho hmap hall hQ
    have hln := (hS.rd H).1
    rw [List.take_of_length_le (by omega)] at hmap
    obtain ⟨il, hil⟩ : ∃ x, x = Jtm.inLoop L1014_6 := ⟨_, rfl⟩; rw [li_eq' il hil]
    simp -implicitDefEqProofs (disch := first | omega | with_unfolding_all exact eqR (Eq.refl _)) [nums, -getElem!_pos, -Int.natCast_add, -Int.natCast_mul, -Int.natCast_ediv, L1014_6, h6, h7, h8, h9, h10, h11, hln]
    subst hil
    try simp -implicitDefEqProofs (disch := first | omega | with_unfolding_all exact eqR (Eq.refl _)) [nums, -getElem!_pos, -Int.natCast_add, -Int.natCast_mul, -Int.natCast_ediv]
    refine hQ _ H w cur ?_ ?_ ha ho hmap hall <;> simp [h7, h10]
  | succ m ih =>
    intro j σ H w cur hm hj h6 h7 h8 h9 h10 h11 ha ho hmap hall hQ
    have hln := (hS.rd H).1
    have hjl : j < S.length := by omega
    obtain ⟨p, e1, e2⟩ := mb_at hS H hjl
    have hcl : cur.length = j := by
      have := congrArg List.length hmap
      rw [List.length_map, List.length_take] at this; omega
    have hf0 : fillA Mo.zero.cells [] = some Mo.zero.cells := rfl
    have hag : AV.agg Mo.zero.cells = mono Mo.zero := rfl
    have htk : S.take (j + 1) = S.take j ++ [S[j]] := by rw [List.take_succ_eq_append_getElem hjl]
    obtain ⟨il, hil⟩ : ∃ x, x = Jtm.inLoop L1014_6 := ⟨_, rfl⟩; rw [li_eq' il hil]
    simp -implicitDefEqProofs (disch := first | omega | with_unfolding_all exact eqR (Eq.refl _)) [nums, -getElem!_pos, -Int.natCast_add, -Int.natCast_mul, -Int.natCast_ediv, L1014_6, S1014_5, h6, h7, h8, h9, h10, h11, hln, hf0, hag, bslR_mono]
    refine l1014_2 hn4 hv hS hbx hl hjl (x7 := x7) (x9 := x9) (x10 := w) _ 0 _ (.vec 1 true Mo.zero.cells) [Mo.zero] rfl (by omega) ?_ ?_ ?_ ?_ ?_ ?_ ?_ ?_ (.inr ⟨true, rfl⟩) (by simpa [grpL] using Mg.start) fun σ1 w1 r1 g6 g7 g8 g9 g10 g11 g12 hr1 hmg => ?_
    any_goals (first | (simp [h6, h7, h8, h9, h10, h11]; done) | skip)
    obtain ⟨w', H', e3, ha', ho'⟩ := ha.app (m := [⟨S[j], w1, r1, hr1⟩]) (bs := 32) (ex := true) (n := 1) ho hb (by simp) rfl (by simp; omega)
    have e3' : appA H 2 32 w (.vec 1 true [.int .u8 S[j], w1]) = some (w', H') := e3
    simp -implicitDefEqProofs (disch := first | omega | with_unfolding_all exact eqR (Eq.refl _)) [nums, -getElem!_pos, -Int.natCast_add, -Int.natCast_mul, -Int.natCast_ediv, S1014_3, g6, g7, g8, g9, g10, g11, g12, e1, e2, fill_pv hr1, fill_pv2, bslR_pv hr1, e3', S1014_4]
    subst hil
    try simp -implicitDefEqProofs (disch := first | omega | with_unfolding_all exact eqR (Eq.refl _)) [nums, -getElem!_pos, -Int.natCast_add, -Int.natCast_mul, -Int.natCast_ediv]
    refine ih (j + 1) _ H' w' _ (by omega) (by omega) ?_ ?_ ?_ ?_ ?_ ?_ ha' ho' (by rw [htk, List.map_append, hmap]; rfl) (fun x hx => ?_) hQ
    any_goals (first | (simp [g6, g7, g8, g9]; done) | skip)
    rcases List.mem_append.1 hx with h | h
    · exact hall x h
    · rw [List.mem_singleton] at h; subst h; exact hmg
theorem call_1014 {v : AV} {L : List Mo} {n : Nat} {H : Heap} (hv : ML tM v L) (hn : n ≤ 4) (hbx : ∀ m ∈ L, Box n m) (hL : L.length ≤ 8) : Res (callI tab 14 [v, .int .i64 n] H) fun e H' => H' = H ∧ ∃ P S w parts, Irr L P ∧ e = .tup [w, .int .i64 0] ∧ ML tP w parts ∧ Sets P S ∧ parts.map PV.s = S ∧ ∀ x ∈ parts, Mg (grpL P x.s) x.l := by
  have hf := hv.frz
  have hB := good_len hn hbx
  refine .hide fun Q hQ => .enter tab_1014 (by simp [AF1014]) (.inr (by simp [hf])) ?_
  simp -implicitDefEqProofs (disch := first | omega | with_unfolding_all exact eqR (Eq.refl _)) [nums, -getElem!_pos, -Int.natCast_add, -Int.natCast_mul, -Int.natCast_ediv, AF1014]
  refine .call (call_1008 hv hn hbx hL) fun e H1 ⟨hH, w, P, he, hml, hirr⟩ => ?_
  subst hH he
  simp -implicitDefEqProofs (disch := first | omega | with_unfolding_all exact eqR (Eq.refl _)) [nums, -getElem!_pos, -Int.natCast_add, -Int.natCast_mul, -Int.natCast_ediv]
  refine .call (call_1010 hv hn hbx hL) fun e H1 ⟨hH, P', S, wS, hirr', he, hmS, hs⟩ => ?_
  subst hH he
  have hPP := irr_unique hbx hirr' hirr
  subst hPP
  have hlP := hB _ hirr.good
  have hlS := hs.len
  simp -implicitDefEqProofs (disch := first | omega | with_unfolding_all exact eqR (Eq.refl _)) [nums, -getElem!_pos, -Int.natCast_add, -Int.natCast_mul, -Int.natCast_ediv]
  refine l1014_6 hn hml hmS (hirr.good.box hbx) (by omega) (by omega) (x7 := .int .i64 0) (x9 := .int .i64 0) (H0 := H.begin) (Nat.le_refl _) _ 0 _ _ (.vec 0 true []) [] rfl (by omega) ?_ ?_ ?_ ?_ ?_ ?_ .vec (.refl _) rfl (fun x h => (nomatch h)) fun σ' H' w' parts q7 q10 ha ho hmap hall => ?_
  any_goals (first | (simp; done) | skip)
  obtain ⟨e, H2, hz, hml2, ho2⟩ := ha.frz ho (Nat.le_refl _) (Nat.le_refl _) 4
  have hnn := hml2.nonew H.next 2
  have hws : H2.ws = [] := ho2.ws
  have hq : (AV.tup [e, .int .i64 0]).noNew H.next 4 = true := by simp [hnn]
  have hz' : Mach.frz H.next 5 H' w' = some (e, H2) := hz
  simp -implicitDefEqProofs (disch := first | omega | with_unfolding_all exact eqR (Eq.refl _)) [nums, -getElem!_pos, -Int.natCast_add, -Int.natCast_mul, -Int.natCast_ediv, S1014_7, q7, q10, hz', wrap_quiet hws hq]
  exact .mk (hQ _ _ ⟨rfl, P', S, e, parts, hirr, rfl, hml2, hs, hmap, hall⟩)
def radZ (m : Mo) : Nat → Mo
  | 0 => Mo.zero
  | j + 1 => (radZ m j).setI j (imin (m.get j) 1)
theorem radZ_get {m : Mo} : ∀ j, j ≤ 8 → ∀ q, (radZ m j).get q = if q < j then imin (m.get q) 1 else 0
  | 0, _, q => by simp [radZ, zero_get]
  | j + 1, h, q => by
    rw [radZ, get_set (by omega)]
    by_cases hq : q = j
    · subst hq; rw [if_pos rfl, if_pos (show q < q + 1 by omega)]
    · rw [if_neg hq, radZ_get j (by omega) q]
      by_cases h2 : q < j
      · rw [if_pos h2, if_pos (show q < j + 1 by omega)]
      · rw [if_neg h2, if_neg (show ¬ q < j + 1 by omega)]
theorem radZ_eq {m : Mo} : radZ m 8 = rad m := Mo.ext' fun q hq => by rw [radZ_get 8 (Nat.le_refl _), if_pos hq, rad_get hq]
theorem ml_cell1 {v : AV} {l : List Mo} (hv : ML tM v l) (H : Heap) {i q : Nat} (hi : i < l.length) (hq : q < 8) : ∃ p r, iaddrA none 8 v (.int .i64 i) = some p ∧ iaddrA (some 8) 1 p (.int .i64 q) = some r ∧ loadA H false 1 r = some (.int .i64 (l[i].get q)) := by
  rcases hv with ⟨rfl, rfl⟩ | ⟨ex, rfl⟩
  · exact nomatch hi
  · refine ⟨.pv (tM.row l) (i * 8), .pv (tM.row l) (i * 8 + q * 1), ?_, ?_, ?_⟩
    · simp only [iaddrA]
      rw [if_pos ⟨by omega, by omega, row_ne tM hi⟩]
      simp
    · simp only [iaddrA]
      rw [if_pos ⟨by omega, by omega⟩]
      simp
    · rw [loadA_pv, part_false, Nat.mul_one]
      have h1 : part true 8 (tM.row l) (i * 8) = some (.agg (l[i]).cells) := tM.row_part l i hi
      simp only [part, if_true] at h1
      split at h1
      · simp only [Option.some.injEq, AV.agg.injEq] at h1
        have h2 : (((tM.row l).drop (i * 8)).take 8)[q]? = some (.int .i64 (l[i].get q)) := by rw [h1]; exact get_cells hq
        rw [List.getElem?_take, if_pos hq, List.getElem?_drop] at h2
        exact h2
      · cases h1
theorem l1021_1 {v0 x3 : AV} {l : List Mo} (hv : ML tM v0 l) {i : Nat} (hi : i < l.length) {H0 : Heap} (hb : H0.base ≤ H0.next) {b5 : Nat} (h5b : H0.next ≤ b5) {w : AV} {cur : List Mo} : ∀ (m j : Nat) (σ : Sig) (H : Heap), 8 - j = m → j ≤ 8 → σ 0 = v0 → σ 3 = x3 → σ 4 = .int .i64 (i : Nat) → σ 5 = .ptr b5 0 → σ 6 = .int .i64 (j : Nat) → AccP tM (fun i => H0.next ≤ i ∧ i ≠ b5) H w cur → Ow H0 H → b5 < H.next → H.obj b5 = .cells (radZ l[i] j).cells none →
    (∀ σ' H', σ' 0 = v0 → σ' 3 = x3 → σ' 4 = .int .i64 (i : Nat) → σ' 5 = .ptr b5 0 → AccP tM (fun i => H0.next ≤ i ∧ i ≠ b5) H' w cur → Ow H0 H' → b5 < H'.next → H'.obj b5 = .cells (rad l[i]).cells none → Res (ai (callI tab) s k .nrm σ' H') Q) →
    Res (li (callI tab) L1021_1 (.inBlock 2 :: s) k σ H) Q := by
  intro m
  induction m with
  | zero =>
    intro j σ H hm hj h0 h3 h4 h5 h6 ha ho n5 o5 hQ
    have : j = 8 := by omega
    subst this
    rw [radZ_eq] at o5
    obtain ⟨il, hil⟩ : ∃ x, x = Jtm.inLoop L1021_1 := ⟨_, rfl⟩; rw [li_eq' il hil]
    simp -implicitDefEqProofs (disch := first | omega | with_unfolding_all exact eqR (Eq.refl _)) [nums, -getElem!_pos, -Int.natCast_add, -Int.natCast_mul, -Int.natCast_ediv, L1021_1, h0, h3, h4, h5, h6]
    subst hil
    try simp -implicitDefEqProofs (disch := first | omega | with_unfolding_all exact eqR (Eq.refl _)) [nums, -getElem!_pos, -Int.natCast_add, -Int.natCast_mul, -Int.natCast_ediv]
    refine hQ _ H ?_ ?_ ?_ ?_ ha ho n5 o5 <;> simp [h0, h3, h4, h5]
  | succ m ih =>
    intro j σ H hm hj h0 h3 h4 h5 h6 ha ho n5 o5 hQ
    have hj8 : j < 8 := by omega
    have hc : ((j : Nat) : Int) < 8 := by omega
    obtain ⟨p, r, e1, e2, e3⟩ := ml_cell1 hv H hi hj8
    have hst : (radZ l[i] j).setI j (imin ((l[i]).get j) 1) = radZ l[i] (j + 1) := rfl
    obtain ⟨il, hil⟩ : ∃ x, x = Jtm.inLoop L1021_1 := ⟨_, rfl⟩; rw [li_eq' il hil]
    simp -implicitDefEqProofs (disch := first | omega | with_unfolding_all exact eqR (Eq.refl _)) [nums, -getElem!_pos, -Int.natCast_add, -Int.natCast_mul, -Int.natCast_ediv, L1021_1, S1021_0, h0, h3, h4, h5, h6, hc, e1, e2, e3, mm_min, iaddr_arr, o5, storeI, hst]
    subst hil
    try simp -implicitDefEqProofs (disch := first | omega | with_unfolding_all exact eqR (Eq.refl _)) [nums, -getElem!_pos, -Int.natCast_add, -Int.natCast_mul, -Int.natCast_ediv]
    refine ih (j + 1) _ _ (by omega) (by omega) ?_ ?_ ?_ ?_ ?_ (ha.frame (Nat.le_refl _) (fun i h1 h2 => by simp only [Heap.set, upd]; rw [if_neg h1.2]) fun i h _ => h) (ho.set _ h5b hb) n5 (by simp [Heap.set, upd]) hQ
    all_goals simp [h0, h3, h4, h5]
theorem l1021_5 {v0 : AV} {l : List Mo} (hv : ML tM v0 l) (hl : l.length < 65536) {H0 : Heap} (hb : H0.base ≤ H0.next) : ∀ (m j : Nat) (σ : Sig) (H : Heap) (w : AV) (cur : List Mo), l.length - j = m → j ≤ l.length → σ 0 = v0 → σ 3 = w → σ 4 = .int .i64 (j : Nat) → AccP tM (fun i => H0.next ≤ i) H w cur → Ow H0 H → cur.length ≤ j →
    (∀ σ' H' w', σ' 3 = w' → AccP tM (fun i => H0.next ≤ i) H' w' (cur ++ (l.drop j).map rad) → Ow H0 H' → Res (ai (callI tab) s k .nrm σ' H') Q) →
    Res (li (callI tab) L1021_5 (.inBlock 0 :: s) k σ H) Q := by
  intro m
  induction m with
  | zero =>
    intro j σ H w cur hm hj h0 h3 h4 ha ho hlen hQ
    have hln := (hv.rd H).1
    rw [List.drop_of_length_le (by omega)] at hQ
    obtain ⟨il, hil⟩ : ∃ x, x = Jtm.inLoop L1021_5 := ⟨_, rfl⟩; rw [li_eq' il hil]
    simp -implicitDefEqProofs (disch := first | omega | with_unfolding_all exact eqR (Eq.refl _)) [nums, -getElem!_pos, -Int.natCast_add, -Int.natCast_mul, -Int.natCast_ediv, L1021_5, h0, h3, h4, hln]
    subst hil
    try simp -implicitDefEqProofs (disch := first | omega | with_unfolding_all exact eqR (Eq.refl _)) [nums, -getElem!_pos, -Int.natCast_add, -Int.natCast_mul, -Int.natCast_ediv]
    refine hQ _ H w ?_ (by simpa using ha) ho
    simp [h3]
  | succ m ih =>
    intro j σ H w cur hm hj h0 h3 h4 ha ho hlen hQ
    have hln := (hv.rd H).1
    have hjl : j < l.length := by omega
    have hf0 : fillA Mo.zero.cells [] = some Mo.zero.cells := rfl
    have hag : AV.agg Mo.zero.cells = mono Mo.zero := rfl
    have d1 : Df (fun i => H0.next ≤ i) H ((H.new (.cells Mo.zero.cells none)).set H.next (.cells Mo.zero.cells none)) := (Df.refl.new _).set _ (.inr (Nat.le_refl _))
    have a1 : AccP tM (fun i => H0.next ≤ i ∧ i ≠ H.next) ((H.new (.cells Mo.zero.cells none)).set H.next (.cells Mo.zero.cells none)) w cur := ha.frame (by show H.next ≤ H.next + 1; omega) (fun i h1 h2 => by simp only [Heap.new, Heap.set, upd]; rw [if_neg (by omega), if_neg (by omega)]) fun i h h2 => ⟨h, by omega⟩
    have hm2 : cur ++ (l.drop j).map rad = (cur ++ [rad l[j]]) ++ (l.drop (j + 1)).map rad := by rw [List.drop_eq_getElem_cons hjl, List.map_cons, List.append_assoc, List.singleton_append]
    rw [hm2] at hQ
    obtain ⟨il, hil⟩ : ∃ x, x = Jtm.inLoop L1021_5 := ⟨_, rfl⟩; rw [li_eq' il hil]
    simp -implicitDefEqProofs (disch := first | omega | with_unfolding_all exact eqR (Eq.refl _)) [nums, -getElem!_pos, -Int.natCast_add, -Int.natCast_mul, -Int.natCast_ediv, L1021_5, S1021_4, h0, h3, h4, hln, hf0, hag, storeZ]
    refine l1021_1 (x3 := w) hv hjl hb (b5 := H.next) ho.next (w := w) (cur := cur) _ 0 _ _ rfl (by omega) ?_ ?_ ?_ ?_ ?_ a1 (d1.ow ho hb fun i h => h) (by show H.next < H.next + 1; omega) (by simp [Heap.set, upd, radZ]) fun σ1 H1 g0 g3 g4 g5 ga go n5 o5 => ?_
    any_goals (first | (simp [h0, h3, h4]; done) | skip)
    have hx := go.next
    obtain ⟨w', H', e3, ha', df⟩ := ga.app (m := [rad l[j]]) (bs := 64) (ex := true) (n := 1) ⟨hx, by omega⟩ (by simp) rfl (by simp; omega)
    rw [show tM.e = 8 from rfl, ← row_one] at e3
    simp -implicitDefEqProofs (disch := first | omega | with_unfolding_all exact eqR (Eq.refl _)) [nums, -getElem!_pos, -Int.natCast_add, -Int.natCast_mul, -Int.natCast_ediv, S1021_2, g0, g3, g4, g5, o5, ldM, bslR_mono, e3, S1021_3]
    subst hil
    try simp -implicitDefEqProofs (disch := first | omega | with_unfolding_all exact eqR (Eq.refl _)) [nums, -getElem!_pos, -Int.natCast_add, -Int.natCast_mul, -Int.natCast_ediv]
    refine ih (j + 1) _ H' w' _ (by omega) (by omega) ?_ ?_ ?_ (ha'.frame (Nat.le_refl _) (fun _ _ _ => rfl) fun i h _ => h.1) (df.ow go hb fun i h => h.1) (by simp; omega) hQ
    all_goals simp [g0]
theorem call_1021 {v0 : AV} {l : List Mo} {H : Heap} (hv : ML tM v0 l) (hl : l.length < 65536) : Res (callI tab 21 [v0] H) fun e H' => H' = H ∧ ∃ r, ML tM e r ∧ IsMin (l.map rad) r := by
  have hf := hv.frz
  refine .hide fun Q hQ => .enter tab_1021 (by simp [AF1021]) (.inr (by simp [hf])) ?_
  simp -implicitDefEqProofs (disch := first | omega | with_unfolding_all exact eqR (Eq.refl _)) [nums, -getElem!_pos, -Int.natCast_add, -Int.natCast_mul, -Int.natCast_ediv, AF1021]
  refine l1021_5 hv hl (H0 := H.begin) (Nat.le_refl _) _ 0 _ _ (.vec 0 true []) [] rfl (by omega) ?_ ?_ ?_ .vec (.refl _) (by simp) fun σ' H' w' q3 ha ho => ?_
  any_goals (first | (simp; done) | skip)
  simp -implicitDefEqProofs (disch := first | omega | with_unfolding_all exact eqR (Eq.refl _)) [nums, -getElem!_pos, -Int.natCast_add, -Int.natCast_mul, -Int.natCast_ediv, S1021_6, q3]
  refine .call (call_55L (ha.acc (H0 := H.begin) fun i h => h) ho (Nat.le_refl _) (by simp; omega)) fun e H2 ⟨ho2, r, hr, hmin⟩ => ?_
  have hf := hr.frz
  have hnn := hr.nonew H.next 3
  have hws : H2.ws = [] := ho2.ws
  simp -implicitDefEqProofs (disch := first | omega | with_unfolding_all exact eqR (Eq.refl _)) [nums, -getElem!_pos, -Int.natCast_add, -Int.natCast_mul, -Int.natCast_ediv, hf, hnn, wrap_quiet hws hnn]
  exact .mk (hQ _ _ ⟨rfl, r, hr, by simpa using hmin⟩)
def cvb (H : Heap) (x : AV) : Option AV := pureA (fun _ => x) H (.cvbs (.t 0))
theorem pureA_cvbs {f : AOpd → AV} {H : Heap} {x : AOpd} : pureA f H (.cvbs x) = cvb H (f x) := rfl
theorem bytes_row : ∀ S : List Int, bytesOf (tB.row S) = some (S.map fun n => UInt8.ofNat n.toNat)
  | [] => rfl
  | a :: S => by
    have ih := bytes_row S
    show bytesOf (.int .u8 a :: tB.row S) = _
    simp only [bytesOf, ih]; rfl
theorem cvb_ml {v : AV} {S : List Int} (hv : ML tB v S) {H : Heap} : cvb H v = some (.str ⟨(S.map fun n => UInt8.ofNat n.toNat).toArray⟩) := by
  have hsrc : srcA H 1 v = some (S.length, tB.row S) := by
    rcases hv with ⟨he, hl0⟩ | ⟨ex, he⟩
    · rw [he, hl0]; rfl
    · rw [he]
      have h3 : (tB.row S).length = S.length * 1 := tB.row_length _
      simp only [srcA]; rw [if_pos h3]
  simp only [cvb, pureA, hsrc, bytes_row]
attribute [local simp ↓ high] pureA_cvbs
theorem call_62 {v w : AV} {S : List Int} {H : Heap} (hv : ML tB v S) (hw : ML tB w S) : callI tab 16 [v, w] H = some (.bool true, H) := by
  have hf := hv.frz
  have hg := hw.frz
  have c1 := fun H => cvb_ml hv (H := H)
  have c2 := fun H => cvb_ml hw (H := H)
  refine callI_enter tab_62 (by simp [AF62]) (.inr (by simp [hf, hg])) ?_
  generalize (⟨(S.map fun n => UInt8.ofNat n.toNat).toArray⟩ : ByteArray) = b at *
  have hb : binA .eql (.str b) (.str b) = some (.bool true) := by rw [bin_seql]; simp
  simp -implicitDefEqProofs (disch := first | omega | with_unfolding_all exact eqR (Eq.refl _)) [nums, -getElem!_pos, -Int.natCast_add, -Int.natCast_mul, -Int.natCast_ediv, AF62, c1, c2, hb]
theorem l63_2 {v w : AV} {a c : List PV} (hv : ML tP v a) (hw : ML tP w c) (hl : a.length = c.length) (hal : a.length < 2 ^ 40) (hs : ∀ (i : Nat) (h1 : i < a.length) (h2 : i < c.length), a[i].s = c[i].s ∧ a[i].l = c[i].l ∧ a[i].l.length < 2 ^ 40) {H0 H : Heap} : ∀ (m j : Nat) (σ : Sig), a.length - j = m → j ≤ a.length → σ 0 = v → σ 1 = w → σ 5 = .int .i64 (j : Nat) →
    Res (some (wrapA H0 (.bool true) H)) Q →
    Res (li (callI tab) L63_2 [.inBlock 0, .code S63_3] (fink [.tmp 4] true H0) σ H) Q := by
  intro m
  have hln := (hv.rd H).1
  induction m with
  | zero =>
    intro j σ hm hj h0 h1 h5 hQ
    obtain ⟨il, hil⟩ : ∃ x, x = Jtm.inLoop L63_2 := ⟨_, rfl⟩; rw [li_eq' il hil]
    simp -implicitDefEqProofs (disch := first | omega | with_unfolding_all exact eqR (Eq.refl _)) [nums, -getElem!_pos, -Int.natCast_add, -Int.natCast_mul, -Int.natCast_ediv, L63_2, h0, h1, h5, hln]
    subst hil
    try simp -implicitDefEqProofs (disch := first | omega | with_unfolding_all exact eqR (Eq.refl _)) [nums, -getElem!_pos, -Int.natCast_add, -Int.natCast_mul, -Int.natCast_ediv, S63_3]
    exact hQ
  | succ m ih =>
    intro j σ hm hj h0 h1 h5 hQ
    have hjl : j < a.length := by omega
    have hjc : j < c.length := by omega
    obtain ⟨c1, c2, c3⟩ := mp_cell hv H hjl
    obtain ⟨d1, d2, d3⟩ := mp_cell hw H hjc
    obtain ⟨s1, s2, s3⟩ := hs j hjl hjc
    have m1 := (a[j]).h
    have m2 := (c[j]).h
    rw [← s2] at m2
    rw [← s1] at d2
    have c51 := fun H => call_51 (H := H) m1 m2 s3 s3
    rw [decide_eq_true rfl] at c51
    have hss : (a[j].s == a[j].s) = true := by simp
    obtain ⟨il, hil⟩ : ∃ x, x = Jtm.inLoop L63_2 := ⟨_, rfl⟩; rw [li_eq' il hil]
    simp -implicitDefEqProofs (disch := first | omega | with_unfolding_all exact eqR (Eq.refl _)) [nums, -getElem!_pos, -Int.natCast_add, -Int.natCast_mul, -Int.natCast_ediv, L63_2, S63_1, h0, h1, h5, hln, c1, c2, c3, d1, d2, d3, hss, c51, S63_0]
    subst hil
    try simp -implicitDefEqProofs (disch := first | omega | with_unfolding_all exact eqR (Eq.refl _)) [nums, -getElem!_pos, -Int.natCast_add, -Int.natCast_mul, -Int.natCast_ediv]
    refine ih (j + 1) _ (by omega) (by omega) ?_ ?_ ?_ hQ
    all_goals simp [h0, h1]
theorem call_63 {v w : AV} {a c : List PV} {H : Heap} (hv : ML tP v a) (hw : ML tP w c) (hl : a.length = c.length) (hal : a.length < 2 ^ 40) (hs : ∀ (i : Nat) (h1 : i < a.length) (h2 : i < c.length), a[i].s = c[i].s ∧ a[i].l = c[i].l ∧ a[i].l.length < 2 ^ 40) : callI tab 17 [v, w] H = some (.bool true, H) := by
  have hf := hv.frz
  have hg := hw.frz
  have l1 := fun H => (hv.rd H).1
  have l2 := fun H => (hw.rd H).1
  rw [← hl] at l2
  have hss : (((a.length : Nat) : Int) == ((a.length : Nat) : Int)) = true := by simp
  have : Res (callI tab 17 [v, w] H) fun e H' => e = .bool true ∧ H' = H := by
    refine .hide fun Q hQ => .enter tab_63 (by simp [AF63]) (.inr (by simp [hf, hg])) ?_
    simp -implicitDefEqProofs (disch := first | omega | with_unfolding_all exact eqR (Eq.refl _)) [nums, -getElem!_pos, -Int.natCast_add, -Int.natCast_mul, -Int.natCast_ediv, AF63, l1, l2, hss, S63_4]
    refine l63_2 hv hw hl hal hs _ 0 _ rfl (by omega) ?_ ?_ ?_ ?_
    any_goals (first | (simp; done) | skip)
    try rw [wrap_begin rfl]
    exact .mk (hQ _ _ ⟨rfl, rfl⟩)
  obtain ⟨e, H', h, rfl, rfl⟩ := this
  exact h
end
end Go.Mach.Ytl
