/-
  Law 11 (MonomialMinimal) in the machine. By an AI agent.
-/
import Derived.Test.YtlbihaiejbpjoaaOa
import Derived.Test.YtlbihaiejbpjoaaCs
set_option linter.unusedSimpArgs false
set_option linter.unusedVariables false
set_option maxRecDepth 100000
namespace Go.Mach
/-- A live argument is frozen ahead of the call. -/
theorem callI_frz {T : Nat → Option AFn} {f : Nat} {fd : AFn} {args args' : List AV} {H H1 : Heap} {r : AV × Heap} (hf : T f = some fd) (hz : fd.fzA = true) (hl : args'.length = args.length) (h1 : frzL (frz H.base 6) args H = some (args', H1))
    (h2 : frzL (frz H1.base 6) args' H1 = some (args', H1)) (h : callI T f args' H1 = some r) : callI T f args H = some r := by
  obtain ⟨n, hn⟩ := callI_ex h
  cases n with
  | zero => cases hn
  | succ n =>
    refine callI_of (n := n + 1) ?_
    simp only [evalCall, hf, hz, if_true, h1, h2, hl] at hn ⊢
    exact hn
namespace Ytl
theorem call_36' {a c : Mo} {H : Heap} : callI tab 36 [mono a, mono c] H = some (.int .i64 (Mo.cmp a c), H) := callI_of (call_36 (n := 0))
theorem fill_two {a c : Mo} : fillA [.int .i64 0, .int .i64 0, .int .i64 0, .int .i64 0, .int .i64 0, .int .i64 0, .int .i64 0, .int .i64 0, .int .i64 0, .int .i64 0, .int .i64 0, .int .i64 0, .int .i64 0, .int .i64 0, .int .i64 0, .int .i64 0] [(0, 8, mono a), (8, 8, mono c)] = some (a.cells ++ c.cells) := by
  obtain ⟨a0, a1, a2, a3, a4, a5, a6, a7⟩ := a
  obtain ⟨c0, c1, c2, c3, c4, c5, c6, c7⟩ := c
  simp [fillA, mono, Mo.cells, put, AV.flat, -agg_mono, -zero_cells]
theorem bslR_two {H : Heap} {a c : Mo} : bslR H 2 8 (some (a.cells ++ c.cells)) = some (.vec 2 true (tM.row [a, c]), H) := by
  have h : (a.cells ++ c.cells).all AV.pure = true := by rw [List.all_append]; exact Bool.and_eq_true_iff.2 ⟨tM.pure a, tM.pure c⟩
  unfold bslR
  simp only [h, if_true]
  simp [Ty.row]; rfl
section
variable {s : List Jtm} {k : KF} {Q : AV → Heap → Prop}
theorem ml_at {v : AV} {l : List Mo} (hv : ML tM v l) (H : Heap) {i : Nat} (hi : i < l.length) : ∃ p, iaddrA none 8 v (.int .i64 i) = some p ∧ loadA H true 8 p = some (mono l[i]) := (hv.rd H).2 i hi

theorem l11_1 {e6 e8 v5 : AV} {L r : List Mo} (h6' : ML tM e6 L) (h8' : ML tM e8 r) {i : Nat} (hi : i < r.length) (hL : L.length < 2 ^ 40) {H : Heap} : ∀ (m j : Nat) (f : Bool) (σ : Sig), L.length - j = m → σ 5 = v5 → σ 6 = e6 → σ 8 = e8 → σ 9 = .int .i64 (i : Nat) → σ 10 = .bool f → σ 11 = .int .i64 (j : Nat) → j ≤ L.length →
    (∀ σ', σ' 5 = v5 → σ' 6 = e6 → σ' 8 = e8 → σ' 9 = .int .i64 (i : Nat) → σ' 10 = .bool (f || (L.drop j).any fun a => decide (a = r[i])) → Res (ai (callI tab) s k .nrm σ' H) Q) →
    Res (li (callI tab) L11_1 (.inBlock 2 :: s) k σ H) Q := by
  intro m
  have hln := (h6'.rd H).1
  induction m with
  | zero =>
    intro j f σ hm h5 h6 h8 h9 h10 h11 hj hQ
    rw [List.drop_of_length_le (by omega)] at hQ
    obtain ⟨il, hil⟩ : ∃ x, x = Jtm.inLoop L11_1 := ⟨_, rfl⟩; rw [li_eq' il hil]
    simp -implicitDefEqProofs (disch := first | omega | with_unfolding_all exact eqR (Eq.refl _)) [nums, -getElem!_pos, -Int.natCast_add, -Int.natCast_mul, -Int.natCast_ediv, L11_1, S11_0, h5, h6, h8, h9, h10, h11, hln]
    subst hil
    try simp -implicitDefEqProofs (disch := first | omega | with_unfolding_all exact eqR (Eq.refl _)) [nums, -getElem!_pos, -Int.natCast_add, -Int.natCast_mul, -Int.natCast_ediv]
    refine hQ _ ?_ ?_ ?_ ?_ ?_ <;> simp [h5, h6, h8, h9, h10]
  | succ m ih =>
    intro j f σ hm h5 h6 h8 h9 h10 h11 hj hQ
    have hjl : j < L.length := by omega
    obtain ⟨p, e1, e2⟩ := ml_at h6' H hjl
    obtain ⟨q, e3, e4⟩ := ml_at h8' H hi
    have hany : (L.drop j).any (fun a => decide (a = r[i])) = (decide (L[j] = r[i]) || (L.drop (j + 1)).any fun a => decide (a = r[i])) := by rw [List.drop_eq_getElem_cons hjl, List.any_cons]
    rw [hany] at hQ
    cases f with
    | true =>
      obtain ⟨il, hil⟩ : ∃ x, x = Jtm.inLoop L11_1 := ⟨_, rfl⟩; rw [li_eq' il hil]
      simp -implicitDefEqProofs (disch := first | omega | with_unfolding_all exact eqR (Eq.refl _)) [nums, -getElem!_pos, -Int.natCast_add, -Int.natCast_mul, -Int.natCast_ediv, L11_1, S11_0, h5, h6, h8, h9, h10, h11, hln, e1, e2, e3, e4]
      subst hil
      try simp -implicitDefEqProofs (disch := first | omega | with_unfolding_all exact eqR (Eq.refl _)) [nums, -getElem!_pos, -Int.natCast_add, -Int.natCast_mul, -Int.natCast_ediv]
      refine ih (j + 1) true _ (by omega) ?_ ?_ ?_ ?_ ?_ ?_ (by omega) (by simpa using hQ)
      all_goals simp [h5, h6, h8, h9, h10, h11]
    | false =>
      by_cases he : L[j] = r[i]
      · obtain ⟨il, hil⟩ : ∃ x, x = Jtm.inLoop L11_1 := ⟨_, rfl⟩; rw [li_eq' il hil]
        simp -implicitDefEqProofs (disch := first | omega | with_unfolding_all exact eqR (Eq.refl _)) [nums, -getElem!_pos, -Int.natCast_add, -Int.natCast_mul, -Int.natCast_ediv, L11_1, S11_0, h5, h6, h8, h9, h10, h11, hln, e1, e2, e3, e4, he]
        subst hil
        try simp -implicitDefEqProofs (disch := first | omega | with_unfolding_all exact eqR (Eq.refl _)) [nums, -getElem!_pos, -Int.natCast_add, -Int.natCast_mul, -Int.natCast_ediv]
        refine ih (j + 1) true _ (by omega) ?_ ?_ ?_ ?_ ?_ ?_ (by omega) (by simpa [he] using hQ)
        all_goals simp [h5, h6, h8, h9, h10, h11]
      · obtain ⟨il, hil⟩ : ∃ x, x = Jtm.inLoop L11_1 := ⟨_, rfl⟩; rw [li_eq' il hil]
        simp -implicitDefEqProofs (disch := first | omega | with_unfolding_all exact eqR (Eq.refl _)) [nums, -getElem!_pos, -Int.natCast_add, -Int.natCast_mul, -Int.natCast_ediv, L11_1, S11_0, h5, h6, h8, h9, h10, h11, hln, e1, e2, e3, e4, he]
        subst hil
        try simp -implicitDefEqProofs (disch := first | omega | with_unfolding_all exact eqR (Eq.refl _)) [nums, -getElem!_pos, -Int.natCast_add, -Int.natCast_mul, -Int.natCast_ediv]
        refine ih (j + 1) false _ (by omega) ?_ ?_ ?_ ?_ ?_ ?_ (by omega) (by simpa [he] using hQ)
        all_goals simp [h5, h6, h8, h9, h10, h11]

theorem l11_4 {e6 e8 v5 : AV} {L r : List Mo} (hm' : IsMin L r) (h8' : ML tM e8 r) {i : Nat} {f : Bool} (hi : i < r.length) (hL : r.length < 2 ^ 40) {H : Heap} : ∀ (m j : Nat) (σ : Sig), r.length - j = m → σ 5 = v5 → σ 6 = e6 → σ 8 = e8 → σ 9 = .int .i64 (i : Nat) → σ 10 = .bool f → σ 12 = .int .i64 (j : Nat) → j ≤ r.length →
    (∀ σ', σ' 5 = v5 → σ' 6 = e6 → σ' 8 = e8 → σ' 9 = .int .i64 (i : Nat) → σ' 10 = .bool f → Res (ai (callI tab) s k .nrm σ' H) Q) →
    Res (li (callI tab) L11_4 (.inBlock 4 :: s) k σ H) Q := by
  intro m
  have hln := (h8'.rd H).1
  induction m with
  | zero =>
    intro j σ hm h5 h6 h8 h9 h10 h12 hj hQ
    obtain ⟨il, hil⟩ : ∃ x, x = Jtm.inLoop L11_4 := ⟨_, rfl⟩; rw [li_eq' il hil]
    simp -implicitDefEqProofs (disch := first | omega | with_unfolding_all exact eqR (Eq.refl _)) [nums, -getElem!_pos, -Int.natCast_add, -Int.natCast_mul, -Int.natCast_ediv, L11_4, S11_3, h5, h6, h8, h9, h10, h12, hln]
    subst hil
    try simp -implicitDefEqProofs (disch := first | omega | with_unfolding_all exact eqR (Eq.refl _)) [nums, -getElem!_pos, -Int.natCast_add, -Int.natCast_mul, -Int.natCast_ediv]
    refine hQ _ ?_ ?_ ?_ ?_ ?_ <;> simp [h5, h6, h8, h9, h10]
  | succ m ih =>
    intro j σ hm h5 h6 h8 h9 h10 h12 hj hQ
    have hjl : j < r.length := by omega
    obtain ⟨p, e1, e2⟩ := ml_at h8' H hjl
    obtain ⟨q, e3, e4⟩ := ml_at h8' H hi
    by_cases hji : j = i
    · subst hji
      obtain ⟨il, hil⟩ : ∃ x, x = Jtm.inLoop L11_4 := ⟨_, rfl⟩; rw [li_eq' il hil]
      simp -implicitDefEqProofs (disch := first | omega | with_unfolding_all exact eqR (Eq.refl _)) [nums, -getElem!_pos, -Int.natCast_add, -Int.natCast_mul, -Int.natCast_ediv, L11_4, S11_2, S11_3, h5, h6, h8, h9, h10, h12, hln, e1, e2]
      subst hil
      try simp -implicitDefEqProofs (disch := first | omega | with_unfolding_all exact eqR (Eq.refl _)) [nums, -getElem!_pos, -Int.natCast_add, -Int.natCast_mul, -Int.natCast_ediv]
      refine ih (j + 1) _ (by omega) ?_ ?_ ?_ ?_ ?_ ?_ (by omega) hQ
      all_goals simp [h5, h6, h8, h9, h10, h12]
    · have hd := hm'.apart hi hjl hji
      have hc := call_33' (a := r[j]) (c := r[i]) (H := H)
      have hd' : decide (Mo.map2 imin r[j] r[i] = r[j]) = false := hd
      rw [hd'] at hc
      obtain ⟨il, hil⟩ : ∃ x, x = Jtm.inLoop L11_4 := ⟨_, rfl⟩; rw [li_eq' il hil]
      simp -implicitDefEqProofs (disch := first | omega | with_unfolding_all exact eqR (Eq.refl _)) [nums, -getElem!_pos, -Int.natCast_add, -Int.natCast_mul, -Int.natCast_ediv, L11_4, S11_2, S11_3, h5, h6, h8, h9, h10, h12, hln, e1, e2, e3, e4, hc]
      subst hil
      try simp -implicitDefEqProofs (disch := first | omega | with_unfolding_all exact eqR (Eq.refl _)) [nums, -getElem!_pos, -Int.natCast_add, -Int.natCast_mul, -Int.natCast_ediv]
      refine ih (j + 1) _ (by omega) ?_ ?_ ?_ ?_ ?_ ?_ (by omega) hQ
      all_goals simp [h5, h6, h8, h9, h10, h12]

theorem l11_10 {e6 e8 v5 : AV} {L r : List Mo} (hm' : IsMin L r) (h6' : ML tM e6 L) (h8' : ML tM e8 r) (hL : L.length < 2 ^ 40) (hr : r.length < 2 ^ 40) {H : Heap} : ∀ (m i : Nat) (σ : Sig), r.length - i = m → σ 5 = v5 → σ 6 = e6 → σ 8 = e8 → σ 9 = .int .i64 (i : Nat) → i ≤ r.length →
    (∀ σ', σ' 5 = v5 → σ' 6 = e6 → σ' 8 = e8 → Res (ai (callI tab) s k .nrm σ' H) Q) →
    Res (li (callI tab) L11_10 (.inBlock 0 :: s) k σ H) Q := by
  intro m
  have hln := (h8'.rd H).1
  induction m with
  | zero =>
    intro i σ hm h5 h6 h8 h9 hi hQ
    obtain ⟨il, hil⟩ : ∃ x, x = Jtm.inLoop L11_10 := ⟨_, rfl⟩; rw [li_eq' il hil]
    simp -implicitDefEqProofs (disch := first | omega | with_unfolding_all exact eqR (Eq.refl _)) [nums, -getElem!_pos, -Int.natCast_add, -Int.natCast_mul, -Int.natCast_ediv, L11_10, S11_9, h5, h6, h8, h9, hln]
    subst hil
    try simp -implicitDefEqProofs (disch := first | omega | with_unfolding_all exact eqR (Eq.refl _)) [nums, -getElem!_pos, -Int.natCast_add, -Int.natCast_mul, -Int.natCast_ediv]
    refine hQ _ ?_ ?_ ?_ <;> simp [h5, h6, h8]
  | succ m ih =>
    intro i σ hm h5 h6 h8 h9 hi hQ
    have hil' : i < r.length := by omega
    obtain ⟨q, e3, e4⟩ := ml_at h8' H hil'
    have hfound : (L.drop 0).any (fun a => decide (a = r[i])) = true := by
      rw [List.drop_zero, List.any_eq_true]
      exact ⟨r[i], hm'.sub (List.getElem_mem hil'), by simp⟩
    by_cases h0 : 0 < i
    · obtain ⟨p, e1, e2⟩ := ml_at h8' H (i := i - 1) (by omega)
      have hst := hm'.desc.step h0 hil'
      have hc := call_36' (a := r[i - 1]) (c := r[i]) (H := H)
      rw [hst] at hc
      obtain ⟨il, hil⟩ : ∃ x, x = Jtm.inLoop L11_10 := ⟨_, rfl⟩; rw [li_eq' il hil]
      simp -implicitDefEqProofs (disch := first | omega | with_unfolding_all exact eqR (Eq.refl _)) [nums, -getElem!_pos, -Int.natCast_add, -Int.natCast_mul, -Int.natCast_ediv, L11_10, S11_9, h5, h6, h8, h9, hln, e1, e2, e3, e4, hc, S11_7]
      refine l11_1 (e6 := e6) (e8 := e8) (v5 := v5) h6' h8' hil' hL _ 0 false _ rfl ?_ ?_ ?_ ?_ ?_ ?_ (by omega) fun σ1 a5 a6 a8 a9 a10 => ?_
      any_goals (first | (simp [h5, h6, h8, h9]; done) | skip)
      rw [hfound] at a10
      simp -implicitDefEqProofs (disch := first | omega | with_unfolding_all exact eqR (Eq.refl _)) [nums, -getElem!_pos, -Int.natCast_add, -Int.natCast_mul, -Int.natCast_ediv, S11_6]
      refine l11_4 (e6 := e6) (e8 := e8) (v5 := v5) (f := false || true) hm' h8' hil' hr _ 0 _ rfl ?_ ?_ ?_ ?_ ?_ ?_ (by omega) fun σ2 b5 b6 b8 b9 b10 => ?_
      any_goals (first | (simp [a5, a6, a8, a9, a10]; done) | skip)
      simp -implicitDefEqProofs (disch := first | omega | with_unfolding_all exact eqR (Eq.refl _)) [nums, -getElem!_pos, -Int.natCast_add, -Int.natCast_mul, -Int.natCast_ediv, S11_5, S11_8, b5, b6, b8, b9, b10]
      subst hil
      try simp -implicitDefEqProofs (disch := first | omega | with_unfolding_all exact eqR (Eq.refl _)) [nums, -getElem!_pos, -Int.natCast_add, -Int.natCast_mul, -Int.natCast_ediv]
      refine ih (i + 1) _ (by omega) ?_ ?_ ?_ ?_ (by omega) hQ
      all_goals simp [b5, b6, b8, b9]
    · obtain ⟨il, hil⟩ : ∃ x, x = Jtm.inLoop L11_10 := ⟨_, rfl⟩; rw [li_eq' il hil]
      simp -implicitDefEqProofs (disch := first | omega | with_unfolding_all exact eqR (Eq.refl _)) [nums, -getElem!_pos, -Int.natCast_add, -Int.natCast_mul, -Int.natCast_ediv, L11_10, S11_9, h5, h6, h8, h9, hln, S11_7]
      refine l11_1 (e6 := e6) (e8 := e8) (v5 := v5) h6' h8' hil' hL _ 0 false _ rfl ?_ ?_ ?_ ?_ ?_ ?_ (by omega) fun σ1 a5 a6 a8 a9 a10 => ?_
      any_goals (first | (simp [h5, h6, h8, h9]; done) | skip)
      rw [hfound] at a10
      simp -implicitDefEqProofs (disch := first | omega | with_unfolding_all exact eqR (Eq.refl _)) [nums, -getElem!_pos, -Int.natCast_add, -Int.natCast_mul, -Int.natCast_ediv, S11_6]
      refine l11_4 (e6 := e6) (e8 := e8) (v5 := v5) (f := false || true) hm' h8' hil' hr _ 0 _ rfl ?_ ?_ ?_ ?_ ?_ ?_ (by omega) fun σ2 b5 b6 b8 b9 b10 => ?_
      any_goals (first | (simp [a5, a6, a8, a9, a10]; done) | skip)
      simp -implicitDefEqProofs (disch := first | omega | with_unfolding_all exact eqR (Eq.refl _)) [nums, -getElem!_pos, -Int.natCast_add, -Int.natCast_mul, -Int.natCast_ediv, S11_5, S11_8, b5, b6, b8, b9, b10]
      subst hil
      try simp -implicitDefEqProofs (disch := first | omega | with_unfolding_all exact eqR (Eq.refl _)) [nums, -getElem!_pos, -Int.natCast_add, -Int.natCast_mul, -Int.natCast_ediv]
      refine ih (i + 1) _ (by omega) ?_ ?_ ?_ ?_ (by omega) hQ
      all_goals simp [b5, b6, b8, b9]

theorem l11_14 {e6 e8 v5 : AV} {L r : List Mo} {H0 : Heap} (hm' : IsMin L r) (hnn : ∀ x ∈ L, x.nn) (h6' : ML tM e6 L) (h8' : ML tM e8 r) (hL : L.length ≤ 12) (hb : H0.base ≤ H0.next) : ∀ (j : Nat) (σ : Sig) (H : Heap) (w : AV) (B : List Mo), σ 5 = v5 → σ 6 = e6 → σ 8 = e8 → σ 13 = w → σ 14 = .int .i64 (pr j) → j ≤ L.length → Acc tM H0 H w B → Ow H0 H → (∀ m ∈ B, m ∈ L) → (∀ t, j ≤ t → ∀ h : t < L.length, L[t] ∈ B) → B.length + 2 * j ≤ 24 →
    (∀ σ' H' w' B', σ' 5 = v5 → σ' 8 = e8 → σ' 13 = w' → Acc tM H0 H' w' B' → Ow H0 H' → (∀ m, m ∈ B' ↔ m ∈ L) → B'.length ≤ 24 → Res (ai (callI tab) s k .nrm σ' H') Q) →
    Res (li (callI tab) L11_14 (.inBlock 6 :: s) k σ H) Q := by
  intro j
  induction j with
  | zero =>
    intro σ H w B h5 h6 h8 h13 h14 hj ha ho hB1 hB2 hB3 hQ
    rw [pr_zero] at h14
    obtain ⟨il, hil⟩ : ∃ x, x = Jtm.inLoop L11_14 := ⟨_, rfl⟩; rw [li_eq' il hil]
    simp -implicitDefEqProofs (disch := first | omega | with_unfolding_all exact eqR (Eq.refl _)) [nums, -getElem!_pos, -Int.natCast_add, -Int.natCast_mul, -Int.natCast_ediv, L11_14, S11_13, h5, h6, h8, h13, h14]
    subst hil
    try simp -implicitDefEqProofs (disch := first | omega | with_unfolding_all exact eqR (Eq.refl _)) [nums, -getElem!_pos, -Int.natCast_add, -Int.natCast_mul, -Int.natCast_ediv]
    refine hQ _ _ w B ?_ ?_ ?_ ha ho (fun m => ⟨hB1 m, fun h => ?_⟩) (by omega)
    any_goals (first | (simp [h5, h8, h13]; done) | skip)
    obtain ⟨t, ht, rfl⟩ := List.getElem_of_mem h
    exact hB2 t (by omega) ht
  | succ j ih =>
    intro σ H w B h5 h6 h8 h13 h14 hj ha ho hB1 hB2 hB3 hQ
    rw [pr_succ] at h14
    have hjl : j < L.length := by omega
    obtain ⟨p, e1, e2⟩ := ml_at h6' H hjl
    obtain ⟨q, e3, e4⟩ := ml_at h6' H (i := 0) (by omega)
    have e3' : iaddrA none 8 e6 (.int .i64 0) = some q := e3
    have hrl := hm'.len
    have hc := call_50 (m := L[j]) h8' (by omega) (H := H)
    have hin : (r.any fun a => dvd a L[j]) = true := by
      rw [← hm'.any hnn, List.any_eq_true]
      exact ⟨L[j], List.getElem_mem hjl, dvd_iff.2 le_refl⟩
    rw [hin] at hc
    obtain ⟨w', H', e5, ha', ho'⟩ := ha.app (m := [L[j], L[0]]) (bs := 64) (ex := true) (n := 2) ho hb (by simp) rfl (by simp; omega)
    rw [show tM.e = 8 from rfl] at e5
    obtain ⟨il, hil⟩ : ∃ x, x = Jtm.inLoop L11_14 := ⟨_, rfl⟩; rw [li_eq' il hil]
    simp -implicitDefEqProofs (disch := first | omega | with_unfolding_all exact eqR (Eq.refl _)) [nums, -getElem!_pos, -Int.natCast_add, -Int.natCast_mul, -Int.natCast_ediv, L11_14, S11_13, S11_11, S11_12, h5, h6, h8, h13, h14, e1, e2, e3', e4, hc, e5, -zero_cells, wrap_pr, fill_two, bslR_two]
    subst hil
    try simp -implicitDefEqProofs (disch := first | omega | with_unfolding_all exact eqR (Eq.refl _)) [nums, -getElem!_pos, -Int.natCast_add, -Int.natCast_mul, -Int.natCast_ediv]
    refine ih _ _ w' (B ++ [L[j], L[0]]) ?_ ?_ ?_ ?_ ?_ (by omega) ha' ho' (fun m hm => ?_) (fun t ht htl => ?_) (by simp; omega) hQ
    any_goals (first | (simp [h5, h6, h8]; done) | skip)
    · rcases List.mem_append.1 hm with h | h
      · exact hB1 m h
      · simp only [List.mem_cons, List.not_mem_nil, or_false] at h
        rcases h with rfl | rfl <;> exact List.getElem_mem _
    · by_cases htj : t = j
      · subst htj; simp
      · exact List.mem_append.2 (.inl (hB2 t (by omega) htl))

theorem sanA {o : Nat → AObj} {ws : List Nat} : callI tab 27 [] ⟨o, 1, 0, [], 0⟩ = some (.bool true, ⟨o, 1, 0, [], 0⟩) := callI_of (san1 o)
theorem law11 {v : AV} {l : List Mo} {y : Mo} (hv : ML tR v l) (hl : ∀ x ∈ l, x.valid) (hy : y.valid) (hll : l.length < 2 ^ 63) : Res (callI tab 11 [v, raw y] Heap.empty) fun e _ => e = .bool true := by
  have hfz := hv.frz
  refine .hide fun Q hQ => .enter tab_11 (by simp [AF11]) (.inr (by simp [hfz])) ?_
  have hs : callI tab 27 [] (Heap.empty.begin.new (.cells y.rcells none)) = some (.bool true, Heap.empty.begin.new (.cells y.rcells none)) := callI_of (san1 _)
  simp -implicitDefEqProofs (disch := first | omega | with_unfolding_all exact eqR (Eq.refl _)) [nums, -getElem!_pos, -Int.natCast_add, -Int.natCast_mul, -Int.natCast_ediv, AF11, hs, S11_18]
  refine .call (call_48 (most := 12) hv hl (by omega) hll) fun e6 H1 ⟨hH, h6'⟩ => ?_
  subst hH
  have hld : part true 8 y.rcells 0 = some (raw y) := rfl
  simp -implicitDefEqProofs (disch := first | omega | with_unfolding_all exact eqR (Eq.refl _)) [nums, -getElem!_pos, -Int.natCast_add, -Int.natCast_mul, -Int.natCast_ediv, hld, call_28' hy, storeZ]
  have hL12 : (l.take 12).length ≤ 12 := List.length_take_le _ _
  have hLv : ∀ x ∈ l.take 12, x.valid := fun x hx => hl x (List.mem_of_mem_take hx)
  generalize l.take 12 = L at *
  refine .call (call_49 h6' (by omega)) fun e8 H2 ⟨hH, r, h8', hmin⟩ => ?_
  subst hH
  have hnn : ∀ x ∈ L, x.nn := fun x hx => valid_nn (hLv x hx)
  have hlen := hmin.len
  have hl6 := fun H => (h6'.rd H).1
  have hl8 := fun H => (h8'.rd H).1
  have hnil : (((r.length : Nat) : Int) == 0) = (((L.length : Nat) : Int) == 0) := by
    rw [Bool.eq_iff_iff, beq_iff_eq, beq_iff_eq]
    have := hmin.nil_iff hnn
    rw [← List.length_eq_zero_iff, ← List.length_eq_zero_iff] at this
    omega
  have hc1 := fun H => call_50 (m := y) h6' (by omega) (H := H)
  have hc2 := fun H => call_50 (m := y) h8' (by omega) (H := H)
  have hany := hmin.any hnn y
  simp -implicitDefEqProofs (disch := first | omega | with_unfolding_all exact eqR (Eq.refl _)) [nums, -getElem!_pos, -Int.natCast_add, -Int.natCast_mul, -Int.natCast_ediv, hl6, hl8, hnil, hc1, hc2, hany, S11_17]
  refine l11_10 (e6 := e6) (e8 := e8) (v5 := .bool true) hmin h6' h8' (by omega) (by omega) _ 0 _ rfl ?_ ?_ ?_ ?_ (by omega) fun σ1 a5 a6 a8 => ?_
  any_goals (first | (simp; done) | skip)
  simp -implicitDefEqProofs (disch := first | omega | with_unfolding_all exact eqR (Eq.refl _)) [nums, -getElem!_pos, -Int.natCast_add, -Int.natCast_mul, -Int.natCast_ediv, S11_16, a5, a6, a8, hl6, wrap_pr]
  refine l11_14 (e6 := e6) (e8 := e8) (v5 := .bool true) hmin hnn h6' h8' hL12 ?_ L.length _ _ (.vec 0 true []) [] ?_ ?_ ?_ ?_ ?_ (Nat.le_refl _) .vec (.refl _) (fun m h => nomatch h) (fun t ht h => by omega) (by simp; omega) fun σ2 H2 w B b5 b8 b13 ha ho hB hBl => ?_
  any_goals (first | (simp [a5, a6, a8]; done) | skip)
  · obtain ⟨w', H3, hz, hw', ho3⟩ := ha.frz ho (by show 0 ≤ _; omega) (b := H2.base) (by rw [ho.base]; show 0 ≤ _; omega) 5
    have hz2 := hw'.frz H3.base 5 H3
    obtain ⟨e9, H4, hc, hH4, r', h9', hmin'⟩ := call_49 (H := H3) hw' (by omega)
    subst hH4
    have hz' : frz H2.base 6 H2 w = some (w', H4) := hz
    have hz2' : frz H4.base 6 H4 w' = some (w', H4) := hz2
    have hc9 := callI_frz (H := H2) (H1 := H4) (args := [w]) (args' := [w']) tab_49 rfl rfl (by simp [hz']) (by simp [hz2']) hc
    have hrr := hmin'.congr hmin hB
    subst hrr
    have hlen' := hmin'.len
    have hc51 := call_51 (H := H4) h9' h8' (by omega) (by omega)
    have hws : H4.ws = [] := ho3.ws
    simp -implicitDefEqProofs (disch := first | omega | with_unfolding_all exact eqR (Eq.refl _)) [nums, -getElem!_pos, -Int.natCast_add, -Int.natCast_mul, -Int.natCast_ediv, S11_15, b5, b8, b13, hc9, hc51]
    exact .mk (hQ _ _ rfl)
end
end Ytl
end Go.Mach
