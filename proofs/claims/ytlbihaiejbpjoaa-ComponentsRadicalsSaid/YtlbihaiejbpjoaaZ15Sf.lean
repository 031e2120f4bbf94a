/-
  Pruned copy of the text Sf. By an AI agent.
-/
import Derived.Test.YtlbihaiejbpjoaaZ15Se
set_option linter.unusedSimpArgs false
set_option linter.unusedVariables false
set_option maxRecDepth 100000
namespace Go.Mach.Ytl
open Go.Mach
section
variable {s : List Jtm} {k : KF} {Q : AV → Heap → Prop}
attribute [local simp] guardI_u
theorem bit_all : ((List.range 256).all fun s => (List.range 8).all fun j => (shrK .i64 (s : Nat) (j : Nat)).tmod 2 == ((s / 2 ^ j % 2 : Nat) : Int)) = true := by decide +kernel
theorem bit_eq {s j : Nat} (hs : s < 256) (hj : j < 8) : (shrK .i64 (s : Nat) (j : Nat)).tmod 2 = ((s / 2 ^ j % 2 : Nat) : Int) := by
  have := (List.all_eq_true.1 ((List.all_eq_true.1 bit_all) s (by simpa using hs))) j (by simpa using hj)
  simpa using this
theorem l60_1 {x : Nat} (hx : x < 256) {H0 : Heap} (hb : H0.base ≤ H0.next) {b3 : Nat} (h3b : H0.next ≤ b3) : ∀ (m j : Nat) (σ : Sig) (H : Heap), 8 - j = m → j ≤ 8 → σ 0 = .int .u8 (x : Nat) → σ 3 = .ptr b3 0 → σ 4 = .int .i64 (j : Nat) → Ow H0 H → b3 < H.next → H.obj b3 = .cells (bitN x j).cells none →
    (∀ σ' H', σ' 3 = .ptr b3 0 → Ow H0 H' → H'.obj b3 = .cells (primeM x).cells none → Res (ai (callI tab) s k .nrm σ' H') Q) →
    Res (li (callI tab) L60_1 (.inBlock 0 :: s) k σ H) Q := by
  intro m
  induction m with
  | zero =>
    intro j σ H hm hj h0 h3 h4 ho n3 o3 hQ
    have : j = 8 := by omega
    subst this
    obtain ⟨il, hil⟩ : ∃ x, x = Jtm.inLoop L60_1 := ⟨_, rfl⟩; rw [li_eq' il hil]
    simp -implicitDefEqProofs (disch := first | omega | with_unfolding_all exact eqR (Eq.refl _)) [nums, -getElem!_pos, -Int.natCast_add, -Int.natCast_mul, -Int.natCast_ediv, L60_1, S60_0, h0, h3, h4]
    subst hil
    try simp -implicitDefEqProofs (disch := first | omega | with_unfolding_all exact eqR (Eq.refl _)) [nums, -getElem!_pos, -Int.natCast_add, -Int.natCast_mul, -Int.natCast_ediv]
    refine hQ _ _ ?_ ho o3 <;> simp [h3]
  | succ m ih =>
    intro j σ H hm hj h0 h3 h4 ho n3 o3 hQ
    have hj8 : j < 8 := by omega
    have hc : ((j : Nat) : Int) < 8 := by omega
    have hst : (bitN x j).setI j ((x / 2 ^ j % 2 : Nat) : Int) = bitN x (j + 1) := rfl
    have hbe := bit_eq hx hj8
    generalize ((x / 2 ^ j % 2 : Nat) : Int) = bt at hst hbe
    obtain ⟨il, hil⟩ : ∃ x, x = Jtm.inLoop L60_1 := ⟨_, rfl⟩; rw [li_eq' il hil]
    simp -implicitDefEqProofs (disch := first | omega | with_unfolding_all exact eqR (Eq.refl _)) [nums, -getElem!_pos, -Int.natCast_add, -Int.natCast_mul, -Int.natCast_ediv, L60_1, S60_0, h0, h3, h4, hc, hbe, iaddr_arr, o3, storeI, hst]
    subst hil
    try simp -implicitDefEqProofs (disch := first | omega | with_unfolding_all exact eqR (Eq.refl _)) [nums, -getElem!_pos, -Int.natCast_add, -Int.natCast_mul, -Int.natCast_ediv]
    refine ih (j + 1) _ _ (by omega) (by omega) ?_ ?_ ?_ (ho.set _ h3b hb) n3 (by simp [Heap.set, upd]) hQ
    all_goals simp [h0, h3]
theorem call_60 {x : Nat} (hx : x < 256) {H : Heap} : Res (callI tab 60 [.int .u8 (x : Nat)] H) fun e H' => H' = H ∧ ML tM e (powL (primeM x)) := by
  have hf0 : fillA Mo.zero.cells [] = some Mo.zero.cells := rfl
  have hag : AV.agg Mo.zero.cells = mono Mo.zero := rfl
  refine .hide fun Q hQ => .enter tab_60 (by simp [AF60]) (.inr (by simp)) ?_
  simp -implicitDefEqProofs (disch := first | omega | with_unfolding_all exact eqR (Eq.refl _)) [nums, -getElem!_pos, -Int.natCast_add, -Int.natCast_mul, -Int.natCast_ediv, AF60, hf0, hag, storeZ]
  refine l60_1 hx (H0 := H.begin) (Nat.le_refl _) (b3 := H.next) (Nat.le_refl _) _ 0 _ _ rfl (by omega) ?_ ?_ ?_ (Ow.set (Ow.new (.refl _) _) _ (Nat.le_refl _) (Nat.le_refl _)) (by show H.next < H.next + 1; omega) (by simp [Heap.set, upd, bitN]) fun σ' H' q3 ho o3 => ?_
  any_goals (first | (simp; done) | skip)
  simp -implicitDefEqProofs (disch := first | omega | with_unfolding_all exact eqR (Eq.refl _)) [nums, -getElem!_pos, -Int.natCast_add, -Int.natCast_mul, -Int.natCast_ediv, S60_2, q3, o3, ldM]
  refine .call (call_96 (a := primeM x)) fun e H2 ⟨hH, hml⟩ => ?_
  subst hH
  have hf := hml.frz
  have hnn := hml.nonew H.next 3
  have hws : H2.ws = [] := ho.ws
  simp -implicitDefEqProofs (disch := first | omega | with_unfolding_all exact eqR (Eq.refl _)) [nums, -getElem!_pos, -Int.natCast_add, -Int.natCast_mul, -Int.natCast_ediv, hf, hnn, wrap_quiet hws hnn]
  exact .mk (hQ _ _ ⟨rfl, hml⟩)
theorem mb_at {v : AV} {l : List Int} (hv : ML tB v l) (H : Heap) {i : Nat} (hi : i < l.length) : ∃ p, iaddrA none 1 v (.int .i64 i) = some p ∧ loadA H false 1 p = some (.int .u8 l[i]) := (hv.rd H).2 i hi
theorem l15_1 {vS : AV} {S : List Int} (hv : ML tB vS S) (hl : S.length < 2 ^ 20) (hn : S.Pairwise (· < ·)) {i : Nat} (hi : i < S.length) {H : Heap} {x3 x4 x7 x9 x10 : AV} : ∀ (m j : Nat) (σ : Sig) (f : Bool), S.length - j = m → j ≤ S.length → σ 3 = x3 → σ 4 = x4 → σ 7 = x7 → σ 9 = x9 → σ 10 = x10 → σ 5 = vS → σ 11 = .int .i64 (i : Nat) → σ 12 = .bool f → σ 13 = .int .i64 (j : Nat) → f = ((S.take j).any fun t => !(t == S[i]) && (andNotK .u8 t S[i] == 0)) →
    (∀ σ', σ' 3 = x3 → σ' 4 = x4 → σ' 7 = x7 → σ' 9 = x9 → σ' 10 = x10 → σ' 5 = vS → σ' 11 = .int .i64 (i : Nat) → σ' 12 = .bool (embB S S[i]) → Res (ai (callI tab) s k .nrm σ' H) Q) →
    Res (li (callI tab) L15_1 (.inBlock 2 :: s) k σ H) Q := by
  intro m
  have hln := (hv.rd H).1
  induction m with
  | zero =>
    intro j σ f hm hj h3 h4 h7 h9 h10 h5 h11 h12 h13 hf hQ
    rw [List.take_of_length_le (by omega)] at hf
    obtain ⟨il, hil⟩ : ∃ x, x = Jtm.inLoop L15_1 := ⟨_, rfl⟩; rw [li_eq' il hil]
    simp -implicitDefEqProofs (disch := first | omega | with_unfolding_all exact eqR (Eq.refl _)) [nums, -getElem!_pos, -Int.natCast_add, -Int.natCast_mul, -Int.natCast_ediv, L15_1, h3, h4, h5, h7, h9, h10, h11, h12, h13, hln]
    subst hil
    try simp -implicitDefEqProofs (disch := first | omega | with_unfolding_all exact eqR (Eq.refl _)) [nums, -getElem!_pos, -Int.natCast_add, -Int.natCast_mul, -Int.natCast_ediv]
    refine hQ _ ?_ ?_ ?_ ?_ ?_ ?_ ?_ (by simp [h12, hf, embB]) <;> simp [h3, h4, h5, h7, h9, h10, h11]
  | succ m ih =>
    intro j σ f hm hj h3 h4 h7 h9 h10 h5 h11 h12 h13 hf hQ
    have hjl : j < S.length := by omega
    obtain ⟨p, e1, e2⟩ := mb_at hv H hjl
    obtain ⟨p', e3, e4⟩ := mb_at hv H hi
    have htk : ((S.take (j + 1)).any fun t => !(t == S[i]) && (andNotK .u8 t S[i] == 0)) = (f || (!(S[j] == S[i]) && (andNotK .u8 S[j] S[i] == 0))) := by
      rw [List.take_succ_eq_append_getElem hjl, List.any_append, ← hf]; simp
    cases f with
    | true =>
      rw [Bool.true_or] at htk
      obtain ⟨il, hil⟩ : ∃ x, x = Jtm.inLoop L15_1 := ⟨_, rfl⟩; rw [li_eq' il hil]
      simp -implicitDefEqProofs (disch := first | omega | with_unfolding_all exact eqR (Eq.refl _)) [nums, -getElem!_pos, -Int.natCast_add, -Int.natCast_mul, -Int.natCast_ediv, L15_1, S15_0, h3, h4, h5, h7, h9, h10, h11, h12, h13, hln]
      subst hil
      try simp -implicitDefEqProofs (disch := first | omega | with_unfolding_all exact eqR (Eq.refl _)) [nums, -getElem!_pos, -Int.natCast_add, -Int.natCast_mul, -Int.natCast_ediv]
      refine ih (j + 1) _ true (by omega) (by omega) ?_ ?_ ?_ ?_ ?_ ?_ ?_ ?_ ?_ htk.symm hQ
      all_goals simp [h3, h4, h5, h7, h9, h10, h11, h12]
    | false =>
      rw [Bool.false_or] at htk
      by_cases hij : j = i
      · subst hij
        have e0 : (!(S[j] == S[j]) && (andNotK .u8 S[j] S[j] == 0)) = false := by simp
        rw [e0] at htk
        have hjj : (((j : Nat) : Int) == ((j : Nat) : Int)) = true := by simp
        obtain ⟨il, hil⟩ : ∃ x, x = Jtm.inLoop L15_1 := ⟨_, rfl⟩; rw [li_eq' il hil]
        simp -implicitDefEqProofs (disch := first | omega | with_unfolding_all exact eqR (Eq.refl _)) [nums, -getElem!_pos, -Int.natCast_add, -Int.natCast_mul, -Int.natCast_ediv, L15_1, S15_0, h3, h4, h5, h7, h9, h10, h11, h12, h13, hln, hjj]
        subst hil
        try simp -implicitDefEqProofs (disch := first | omega | with_unfolding_all exact eqR (Eq.refl _)) [nums, -getElem!_pos, -Int.natCast_add, -Int.natCast_mul, -Int.natCast_ediv]
        refine ih (j + 1) _ false (by omega) (by omega) ?_ ?_ ?_ ?_ ?_ ?_ ?_ ?_ ?_ htk.symm hQ
        all_goals simp [h3, h4, h5, h7, h9, h10, h11, h12]
      · have hne : S[j] ≠ S[i] := fun e => by
          have h1 := List.pairwise_iff_getElem.1 hn
          by_cases hlt : j < i
          · have := h1 j i hjl hi hlt; omega
          · have := h1 i j hi hjl (by omega); omega
        have e0 : (!(S[j] == S[i]) && (andNotK .u8 S[j] S[i] == 0)) = (andNotK .u8 S[j] S[i] == 0) := by
          have : (S[j] == S[i]) = false := by simpa using hne
          rw [this]; rfl
        rw [e0] at htk
        have hjj : (((j : Nat) : Int) == ((i : Nat) : Int)) = false := by simp; omega
        obtain ⟨il, hil⟩ : ∃ x, x = Jtm.inLoop L15_1 := ⟨_, rfl⟩; rw [li_eq' il hil]
        simp -implicitDefEqProofs (disch := first | omega | with_unfolding_all exact eqR (Eq.refl _)) [nums, -getElem!_pos, -Int.natCast_add, -Int.natCast_mul, -Int.natCast_ediv, L15_1, S15_0, h3, h4, h5, h7, h9, h10, h11, h12, h13, hln, hjj, e1, e2, e3, e4]
        subst hil
        try simp -implicitDefEqProofs (disch := first | omega | with_unfolding_all exact eqR (Eq.refl _)) [nums, -getElem!_pos, -Int.natCast_add, -Int.natCast_mul, -Int.natCast_ediv]
        refine ih (j + 1) _ (andNotK .u8 S[j] S[i] == 0) (by omega) (by omega) ?_ ?_ ?_ ?_ ?_ ?_ ?_ ?_ ?_ htk.symm hQ
        all_goals simp [h3, h4, h5, h7, h9, h10, h11, h12]
theorem l15_7 {n : Nat} (hn4 : n ≤ 4) {vS vq : AV} {P : List Mo} {S : List Int} (hv : ML tB vS S) (hq : ML tB vq (S.filter (embB S))) (hs : Sets P S) (hbx : ∀ a ∈ P, Box n a) (hl : S.length < 2 ^ 20) {H : Heap} {x3 x4 : AV} : ∀ (m j at0 : Nat) (σ : Sig) (w : AV) (r : List Mo), S.length - j = m → j ≤ S.length → σ 3 = x3 → σ 4 = x4 → σ 5 = vS → σ 7 = vq → σ 9 = w → σ 10 = .int .i64 (at0 : Nat) → σ 11 = .int .i64 (j : Nat) → at0 = ((S.take j).filter (embB S)).length → ML tM w r → Mg (((S.take j).filter fun s => !embB S s).map fun s => primeM s.toNat) r →
    (∀ σ' w' r', σ' 3 = x3 → σ' 4 = x4 → σ' 7 = vq → σ' 9 = w' → σ' 10 = .int .i64 ((S.filter (embB S)).length : Nat) → ML tM w' r' → Mg ((S.filter fun s => !embB S s).map fun s => primeM s.toNat) r' → Res (ai (callI tab) s k .nrm σ' H) Q) →
    Res (li (callI tab) L15_7 (.inBlock 0 :: s) k σ H) Q := by
  intro m
  have hln := (hv.rd H).1
  have hlq := (hq.rd H).1
  induction m with
  | zero =>
    intro j at0 σ w r hm hj h3 h4 h5 h7 h9 h10 h11 hat hw hmg hQ
    rw [List.take_of_length_le (by omega)] at hmg hat
    obtain ⟨il, hil⟩ : ∃ x, x = Jtm.inLoop L15_7 := ⟨_, rfl⟩; rw [li_eq' il hil]
    simp -implicitDefEqProofs (disch := first | omega | with_unfolding_all exact eqR (Eq.refl _)) [nums, -getElem!_pos, -Int.natCast_add, -Int.natCast_mul, -Int.natCast_ediv, L15_7, h3, h4, h5, h7, h9, h10, h11, hln]
    subst hil
    try simp -implicitDefEqProofs (disch := first | omega | with_unfolding_all exact eqR (Eq.refl _)) [nums, -getElem!_pos, -Int.natCast_add, -Int.natCast_mul, -Int.natCast_ediv]
    refine hQ _ w r ?_ ?_ ?_ ?_ ?_ hw hmg <;> simp [h3, h4, h7, h9, h10, hat]
  | succ m ih =>
    intro j at0 σ w r hm hj h3 h4 h5 h7 h9 h10 h11 hat hw hmg hQ
    have hjl : j < S.length := by omega
    obtain ⟨p, e1, e2⟩ := mb_at hv H hjl
    have f1 := filter_succ (p := embB S) hjl
    have f2 := filter_succ (p := fun s => !embB S s) hjl
    obtain ⟨x, hx, hxe⟩ := hs.nat (List.getElem_mem hjl)
    obtain ⟨il, hil⟩ : ∃ x, x = Jtm.inLoop L15_7 := ⟨_, rfl⟩; rw [li_eq' il hil]
    simp -implicitDefEqProofs (disch := first | omega | with_unfolding_all exact eqR (Eq.refl _)) [nums, -getElem!_pos, -Int.natCast_add, -Int.natCast_mul, -Int.natCast_ediv, L15_7, S15_6, h3, h4, h5, h7, h9, h10, h11, hln]
    refine l15_1 hv hl hs.asc hjl (x3 := x3) (x4 := x4) (x7 := vq) (x9 := w) (x10 := .int .i64 (at0 : Nat)) _ 0 _ false rfl (by omega) ?_ ?_ ?_ ?_ ?_ ?_ ?_ ?_ ?_ (by simp) fun σ1 g3 g4 g7 g9 g10 g5 g11 g12 => ?_
    any_goals (first | (simp [h3, h4, h5, h7, h9, h10, h11]; done) | skip)
    cases hem : embB S S[j] with
    | true =>
      rw [hem] at g12
      rw [hem, if_pos rfl] at f1
      rw [hem] at f2
      simp only [Bool.not_true, Bool.false_eq_true, if_false, List.append_nil] at f2
      have hfa := filter_at hjl hem
      rw [← hat] at hfa
      obtain ⟨hlt, hge⟩ := List.getElem?_eq_some_iff.1 hfa
      obtain ⟨p', e3, e4⟩ := mb_at hq H hlt
      rw [hge] at e4
      have hql : (S.filter (embB S)).length ≤ S.length := List.length_filter_le _ _
      have hbb : (S[j] == S[j]) = true := by simp
      simp -implicitDefEqProofs (disch := first | omega | with_unfolding_all exact eqR (Eq.refl _)) [nums, -getElem!_pos, -Int.natCast_add, -Int.natCast_mul, -Int.natCast_ediv, S15_4, g3, g4, g5, g7, g9, g10, g11, g12, hlq, e1, e2, e3, e4, hbb, S15_2, S15_5]
      subst hil
      try simp -implicitDefEqProofs (disch := first | omega | with_unfolding_all exact eqR (Eq.refl _)) [nums, -getElem!_pos, -Int.natCast_add, -Int.natCast_mul, -Int.natCast_ediv]
      refine ih (j + 1) (at0 + 1) _ w r (by omega) (by omega) ?_ ?_ ?_ ?_ ?_ ?_ ?_ (by rw [f1, List.length_append, hat]; rfl) hw (by rw [f2]; exact hmg) hQ
      all_goals simp [g3, g4, g5, g7, g9]
    | false =>
      rw [hem] at g12
      rw [hem] at f1
      simp only [Bool.false_eq_true, if_false, List.append_nil] at f1
      rw [hem] at f2
      simp only [Bool.not_false, if_true] at f2
      have hbox : ∀ a ∈ ((S.take j).filter fun s => !embB S s).map fun s => primeM s.toNat, Box n a := fun a ha => by
        obtain ⟨y, hy, rfl⟩ := List.mem_map.1 ha
        obtain ⟨b, hb, rfl⟩ := (hs.mem y).1 (List.mem_of_mem_take (List.mem_filter.1 hy).1)
        exact prime_box (hbx b hb)
      have hlr := (hmg.mt hbox).len hn4
      have hlp := powL_len (a := primeM x)
      rw [hxe] at e2
      simp -implicitDefEqProofs (disch := first | omega | with_unfolding_all exact eqR (Eq.refl _)) [nums, -getElem!_pos, -Int.natCast_add, -Int.natCast_mul, -Int.natCast_ediv, S15_4, S15_3, g3, g4, g5, g7, g9, g10, g11, g12, e1, e2]
      refine .call (call_60 hx) fun e H2 ⟨hH, hml⟩ => ?_
      subst hH
      simp -implicitDefEqProofs (disch := first | omega | with_unfolding_all exact eqR (Eq.refl _)) [nums, -getElem!_pos, -Int.natCast_add, -Int.natCast_mul, -Int.natCast_ediv, g9]
      refine .call (call_59 hw hml (by omega) (by omega) (by have := Nat.mul_le_mul hlr hlp; omega)) fun e4 H3 ⟨hH, r', hr', hmin⟩ => ?_
      subst hH
      simp -implicitDefEqProofs (disch := first | omega | with_unfolding_all exact eqR (Eq.refl _)) [nums, -getElem!_pos, -Int.natCast_add, -Int.natCast_mul, -Int.natCast_ediv, S15_5, g3, g4, g5, g7, g10, g11]
      subst hil
      try simp -implicitDefEqProofs (disch := first | omega | with_unfolding_all exact eqR (Eq.refl _)) [nums, -getElem!_pos, -Int.natCast_add, -Int.natCast_mul, -Int.natCast_ediv]
      have hxn : (S[j]).toNat = x := by rw [hxe]; rfl
      refine ih (j + 1) at0 _ e4 r' (by omega) (by omega) ?_ ?_ ?_ ?_ ?_ ?_ ?_ (by rw [f1]; exact hat) hr' (by rw [f2, List.map_append]; simp only [List.map_cons, List.map_nil, hxn]; exact hmg.next hmin) hQ
      all_goals simp [g3, g4, g5, g7, g10]
theorem law15 {v : AV} {l : List Mo} {n : Nat} (hv : ML tQ v l) (hn : n < 256) (hby : ∀ m ∈ l, Bytes m) (hll : l.length < 2 ^ 63) : Res (callI tab 15 [inp v n] Heap.empty) fun e _ => e = .bool true := by
  have hf := inp_flat (n := n) hv
  have hz : frz 0 6 Heap.empty (inp v n) = some (inp v n, Heap.empty) := inp_frz (n := n) hv 0 4 Heap.empty
  refine .hide fun Q hQ => .enter tab_15 (by simp [AF15]) (.inr (by simp [hz])) ?_
  have hs : callI tab 18 [] (Heap.empty.begin.new (.cells [v, .int .u8 n] none)) = some (.bool true, Heap.empty.begin.new (.cells [v, .int .u8 n] none)) := callI_of (san21_1 _)
  have hin : AV.agg [v, .int .u8 n] = inp v n := rfl
  have c24 := fun H => call_24 hv hn (H := H)
  have hc5 : n % 5 ≤ 4 := by omega
  have hf0 : fillA Mo.zero.cells [] = some Mo.zero.cells := rfl
  have hag : AV.agg Mo.zero.cells = mono Mo.zero := rfl
  generalize hc : n % 5 = c at *
  simp -implicitDefEqProofs (disch := first | omega | with_unfolding_all exact eqR (Eq.refl _)) [nums, -getElem!_pos, -Int.natCast_add, -Int.natCast_mul, -Int.natCast_ediv, AF15, hf, hs, S15_10, ld20, hin]
  refine .call (call_23 hv hn hby hll) fun e H1 ⟨hH, L, hL, l1, bL⟩ => ?_
  subst hH
  rw [hc] at bL
  have hB := good_len hc5 bL
  have h19 : ∀ H, Res (callI tab 19 [e, .int .i64 (c : Nat)] H) fun e H' => H' = H ∧ ∃ w P, e = .tup [w, .int .i64 0] ∧ ML tM w P ∧ Irr L P := fun H => call_19 (n := c) hL (by omega) (fun m hm => ⟨(bL m hm).valid, fun q _ h => by rw [(bL m hm q).2.2 h]; omega⟩) (by omega) hB
  have hX : ∀ P, Irr L P → P.length ≤ 1000 := fun P h => hB P h.good
  simp -implicitDefEqProofs (disch := first | omega | with_unfolding_all exact eqR (Eq.refl _)) [nums, -getElem!_pos, -Int.natCast_add, -Int.natCast_mul, -Int.natCast_ediv, ld20, hin, c24]
  refine .call (call_20 hL h19 hX) fun e2 H2 ⟨hH, P, S, w, hirr, he, hmw, hsets⟩ => ?_
  subst hH he
  simp -implicitDefEqProofs (disch := first | omega | with_unfolding_all exact eqR (Eq.refl _)) [nums, -getElem!_pos, -Int.natCast_add, -Int.natCast_mul, -Int.natCast_ediv, ld20, hin, c24]
  refine .call (call_21 hL h19 hX) fun e3 H3 ⟨hH, P', S', w', hirr', he, hmw', hsets'⟩ => ?_
  subst hH he
  have hPP := irr_unique bL hirr' hirr
  subst hPP
  have hSS := sets_unique hsets' hsets
  subst hSS
  have hlP := hX _ hirr
  have hlS : S'.length ≤ 1000 := by
    have h1 := List.nodup_iff_pairwise_ne.2 (hsets.asc.imp fun h => by omega)
    have : S'.length ≤ (P'.map fun a => ((supN a : Nat) : Int)).length := nodup_lenI h1 fun s h => by
      obtain ⟨a, ha, e⟩ := (hsets.mem s).1 h
      exact List.mem_map.2 ⟨a, ha, e⟩
    rw [List.length_map] at this
    omega
  have hlq := fun H => (hmw'.rd H).1
  have hql : (S'.filter (embB S')).length ≤ S'.length := List.length_filter_le _ _
  simp -implicitDefEqProofs (disch := first | omega | with_unfolding_all exact eqR (Eq.refl _)) [nums, -getElem!_pos, -Int.natCast_add, -Int.natCast_mul, -Int.natCast_ediv, S15_9, hf0, hag, bslR_mono]
  refine l15_7 hc5 hmw hmw' hsets (hirr.good.box bL) (by omega) (x3 := .bool true) (x4 := e) _ 0 0 _ (.vec 1 true Mo.zero.cells) [Mo.zero] rfl (by omega) ?_ ?_ ?_ ?_ ?_ ?_ ?_ rfl (.inr ⟨true, rfl⟩) (by simpa using Mg.start) fun σ1 w1 r1 g3 g4 g7 g9 g10 hr1 hmg => ?_
  any_goals (first | (simp; done) | skip)
  obtain ⟨eR, HR, hcR, hHR, R, hR, mR⟩ := call_54 (H := Heap.empty.begin.new (.cells [v, .int .u8 n] none)) hL (by omega)
  subst hHR
  have heq := rad_law bL hirr hsets hmg mR
  have lR : R.length ≤ 4 := by have := mR.len; rw [List.length_map] at this; omega
  have c51 := call_51 (H := Heap.empty.begin.new (.cells [v, .int .u8 n] none)) hr1 hR (by rw [heq]; omega) (by omega)
  rw [decide_eq_true heq] at c51
  simp -implicitDefEqProofs (disch := first | omega | with_unfolding_all exact eqR (Eq.refl _)) [nums, -getElem!_pos, -Int.natCast_add, -Int.natCast_mul, -Int.natCast_ediv, S15_8, g3, g4, g7, g9, g10, hlq, hcR, c51]
  exact .mk (hQ _ _ rfl)
end
end Go.Mach.Ytl
