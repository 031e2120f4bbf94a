/-
  Law 13 (ComponentsMeet) in the machine. By an AI agent.
-/
import Derived.Test.YtlbihaiejbpjoaaQf
set_option linter.unusedSimpArgs false
set_option linter.unusedVariables false
set_option maxRecDepth 100000
namespace Go.Mach.Ytl
open Go.Mach
theorem le_get {a b : Mo} : Mo.le a b ↔ ∀ q, q < 8 → a.get q ≤ b.get q := by
  unfold Mo.le
  constructor
  · rintro ⟨h0, h1, h2, h3, h4, h5, h6, h7⟩ q hq
    match q, hq with
    | 0, _ => exact h0
    | 1, _ => exact h1
    | 2, _ => exact h2
    | 3, _ => exact h3
    | 4, _ => exact h4
    | 5, _ => exact h5
    | 6, _ => exact h6
    | 7, _ => exact h7
  · intro h
    exact ⟨h 0 (by omega), h 1 (by omega), h 2 (by omega), h 3 (by omega), h 4 (by omega), h 5 (by omega), h 6 (by omega), h 7 (by omega)⟩
theorem nn_get {a : Mo} : a.nn ↔ ∀ q, q < 8 → 0 ≤ a.get q := by
  unfold Mo.nn
  constructor
  · rintro ⟨h0, h1, h2, h3, h4, h5, h6, h7⟩ q hq
    match q, hq with
    | 0, _ => exact h0
    | 1, _ => exact h1
    | 2, _ => exact h2
    | 3, _ => exact h3
    | 4, _ => exact h4
    | 5, _ => exact h5
    | 6, _ => exact h6
    | 7, _ => exact h7
  · intro h
    exact ⟨h 0 (by omega), h 1 (by omega), h 2 (by omega), h 3 (by omega), h 4 (by omega), h 5 (by omega), h 6 (by omega), h 7 (by omega)⟩
theorem map2_get {f : Int → Int → Int} {a b : Mo} {q : Nat} (h : q < 8) : (Mo.map2 f a b).get q = f (a.get q) (b.get q) := by
  match q, h with
  | 0, _ | 1, _ | 2, _ | 3, _ | 4, _ | 5, _ | 6, _ | 7, _ => rfl
theorem dvd_eq {a c : Mo} : dvd a c = decide (Mo.le a c) := by rw [Bool.eq_iff_iff, dvd_iff, decide_eq_true_eq]
theorem Box.nn {n : Nat} {a : Mo} (h : Box n a) : a.nn := nn_get.2 fun q _ => (h q).1
theorem max_nn {a b : Mo} (ha : a.nn) (hb : b.nn) : (Mo.map2 imax a b).nn := nn_get.2 fun q hq => by
  rw [map2_get hq]; have := nn_get.1 ha q hq; have := nn_get.1 hb q hq; unfold imax; split <;> omega
theorem lcms_mem {L M : List Mo} {x : Mo} : x ∈ lcms L M ↔ ∃ a ∈ L, ∃ b ∈ M, Mo.map2 imax a b = x := by simp [lcms]
theorem lcms_any {L M : List Mo} {t : Mo} : ((lcms L M).any fun x => decide (Mo.le x t)) = ((L.any fun x => decide (Mo.le x t)) && (M.any fun x => decide (Mo.le x t))) := by
  rw [Bool.eq_iff_iff, Bool.and_eq_true, List.any_eq_true, List.any_eq_true, List.any_eq_true]
  simp only [decide_eq_true_eq, lcms_mem]
  constructor
  · rintro ⟨x, ⟨a, ha, b, hb, rfl⟩, h⟩
    rw [max_le_iff] at h
    exact ⟨⟨a, ha, h.1⟩, b, hb, h.2⟩
  · rintro ⟨⟨a, ha, h1⟩, b, hb, h2⟩
    exact ⟨_, ⟨a, ha, b, hb, rfl⟩, max_le_iff.2 ⟨h1, h2⟩⟩
theorem IsMin.any_le {l r : List Mo} (h : IsMin l r) (hl : ∀ x ∈ l, x.nn) (y : Mo) : (r.any fun a => decide (Mo.le a y)) = l.any fun a => decide (Mo.le a y) := by
  have := h.any hl y
  simp only [dvd_eq] at this
  exact this.symm
theorem IsMin.self {l r : List Mo} (h : IsMin l r) : IsMin r r := ⟨h.desc, fun m => ⟨fun hm => ⟨hm, fun d hd hle => ((h.mem m).1 hm).2 d (h.sub hd) hle⟩, fun hm => hm.1⟩⟩
theorem IsMin.again {l r q : List Mo} (h : IsMin l r) (h2 : IsMin r q) : r = q := h.self.congr h2 fun _ => Iff.rfl
theorem rad_le {n : Nat} {a t : Mo} (ha : Box n a) (ht : ∀ q, 0 ≤ t.get q ∧ t.get q ≤ 4) : Mo.le (rad a) t ↔ Mo.le a (cube t) := by
  rw [le_get, le_get]
  have key : ∀ q, q < 8 → ((rad a).get q ≤ t.get q ↔ a.get q ≤ (cube t).get q) := by
    intro q hq
    rw [rad_get hq, cube_get hq]
    have h1 := ha q
    have h2 := ht q
    unfold imin
    split <;> omega
  exact ⟨fun h q hq => (key q hq).1 (h q hq), fun h q hq => (key q hq).2 (h q hq)⟩
theorem rad_nn {n : Nat} {a : Mo} (ha : Box n a) : (rad a).nn := nn_get.2 fun q hq => by
  rw [rad_get hq]; have := ha q; unfold imin; split <;> omega
theorem rad_any {n : Nat} {L : List Mo} (hL : ∀ m ∈ L, Box n m) {t : Mo} (ht : ∀ q, 0 ≤ t.get q ∧ t.get q ≤ 4) : ((L.map rad).any fun x => decide (Mo.le x t)) = L.any fun x => decide (Mo.le x (cube t)) := by
  rw [List.any_map, Bool.eq_iff_iff, List.any_eq_true, List.any_eq_true]
  constructor
  · rintro ⟨a, ha, h⟩
    refine ⟨a, ha, ?_⟩
    simp only [Function.comp, decide_eq_true_eq] at h ⊢
    exact (rad_le (hL a ha) ht).1 h
  · rintro ⟨a, ha, h⟩
    refine ⟨a, ha, ?_⟩
    simp only [Function.comp, decide_eq_true_eq] at h ⊢
    exact (rad_le (hL a ha) ht).2 h
theorem allV_get : ∀ i, i ≤ 8 → ∀ t ∈ allV i, ∀ q, 0 ≤ t.get q ∧ t.get q ≤ 4 ∧ (i ≤ q → t.get q = 0)
  | 0, _ => fun t ht q => by
    simp only [allV, List.mem_singleton] at ht
    subst ht; rw [zero_get]; omega
  | i + 1, hi => fun t ht q => by
    simp only [allV, List.mem_flatMap, List.mem_map, List.mem_range] at ht
    obtain ⟨m, hm, e, he, rfl⟩ := ht
    have := allV_get i (by omega) m hm q
    rw [get_set (by omega)]
    split <;> omega
section
variable {s : List Jtm} {k : KF} {Q : AV → Heap → Prop}
theorem law13 {v vy : AV} {l ly : List Mo} {n : Nat} (hv : ML tQ v l) (hy : ML tQ vy ly) (hn : n < 256) (hby : ∀ m ∈ l, Bytes m) (hby2 : ∀ m ∈ ly, Bytes m) (hll : l.length < 2 ^ 63) (hly : ly.length < 2 ^ 63) : Res (callI tab 13 [inp v n, vy] Heap.empty) fun e _ => e = .bool true := by
  have hf := inp_flat (n := n) hv
  have hz : frz 0 6 Heap.empty (inp v n) = some (inp v n, Heap.empty) := inp_frz (n := n) hv 0 4 Heap.empty
  have hzy : frz 0 6 Heap.empty vy = some (vy, Heap.empty) := hy.frz 0 5 Heap.empty
  refine .hide fun Q hQ => .enter tab_13 (by simp [AF13]) (.inr (by simp [hz, hzy])) ?_
  have hs : callI tab 18 [] (Heap.empty.begin.new (.cells [v, .int .u8 n] none)) = some (.bool true, Heap.empty.begin.new (.cells [v, .int .u8 n] none)) := callI_of (san21_1 _)
  have hin : AV.agg [v, .int .u8 n] = inp v n := rfl
  have c24 := fun H => call_24 hv hn (H := H)
  have h52 := fun H => call_52 (n := n % 5) (most := 4) (H := H) hy (by omega) (by omega) hby2 hly
  rw [show ((4 : Nat) : Int) = 4 from rfl] at h52
  generalize hc : n % 5 = c at *
  simp -implicitDefEqProofs (disch := first | omega | with_unfolding_all exact eqR (Eq.refl _)) [nums, -getElem!_pos, -Int.natCast_add, -Int.natCast_mul, -Int.natCast_ediv, AF13, hf, hs, S13_9, ld20, hin]
  refine .call (call_23 hv hn hby hll) fun e H1 ⟨hH, L, hL, l1, bL⟩ => ?_
  subst hH
  rw [hc] at bL
  simp -implicitDefEqProofs (disch := first | omega | with_unfolding_all exact eqR (Eq.refl _)) [nums, -getElem!_pos, -Int.natCast_add, -Int.natCast_mul, -Int.natCast_ediv, ld20, hin, c24]
  refine .call (h52 _) fun e2 H2 ⟨hH, M, hM, l2, bM⟩ => ?_
  subst hH
  simp -implicitDefEqProofs (disch := first | omega | with_unfolding_all exact eqR (Eq.refl _)) [nums, -getElem!_pos, -Int.natCast_add, -Int.natCast_mul, -Int.natCast_ediv]
  refine .call (call_53 hL hM (by omega) (by omega) (by have := Nat.mul_le_mul l1 l2; omega)) fun e3 H3 ⟨hH, B, hB, mB⟩ => ?_
  subst hH
  simp -implicitDefEqProofs (disch := first | omega | with_unfolding_all exact eqR (Eq.refl _)) [nums, -getElem!_pos, -Int.natCast_add, -Int.natCast_mul, -Int.natCast_ediv]
  refine .call (call_54 hL (by omega)) fun e4 H4 ⟨hH, R, hR, mR⟩ => ?_
  subst hH
  have lB : B.length ≤ 16 := by have := mB.len; rw [lcms_length] at this; have := Nat.mul_le_mul l1 l2; omega
  have lR : R.length ≤ 4 := by have := mR.len; rw [List.length_map] at this; omega
  simp -implicitDefEqProofs (disch := first | omega | with_unfolding_all exact eqR (Eq.refl _)) [nums, -getElem!_pos, -Int.natCast_add, -Int.natCast_mul, -Int.natCast_ediv]
  refine .call (call_55 hB (by omega)) fun e5 H5 ⟨hH, B', hB', mB'⟩ => ?_
  subst hH
  have eB := mB.again mB'
  subst eB
  have c51 := fun H => call_51 (H := H) hB hB' (by omega) (by omega)
  simp -implicitDefEqProofs (disch := first | omega | with_unfolding_all exact eqR (Eq.refl _)) [nums, -getElem!_pos, -Int.natCast_add, -Int.natCast_mul, -Int.natCast_ediv, c51]
  refine .call (call_55 hR (by omega)) fun e6 H6 ⟨hH, R', hR', mR'⟩ => ?_
  subst hH
  have eR := mR.again mR'
  subst eR
  have c51' := fun H => call_51 (H := H) hR hR' (by omega) (by omega)
  simp -implicitDefEqProofs (disch := first | omega | with_unfolding_all exact eqR (Eq.refl _)) [nums, -getElem!_pos, -Int.natCast_add, -Int.natCast_mul, -Int.natCast_ediv, c51', S13_8, ld20, hin, c24]
  refine .call (call_56 (n := c) (by omega)) fun e7 H7 ⟨hH, hT⟩ => ?_
  subst hH
  simp -implicitDefEqProofs (disch := first | omega | with_unfolding_all exact eqR (Eq.refl _)) [nums, -getElem!_pos, -Int.natCast_add, -Int.natCast_mul, -Int.natCast_ediv]
  have lT : (allV c).length < 2 ^ 40 := by
    have : 5 ^ c ≤ 5 ^ 4 := Nat.pow_le_pow_right (by omega) (by omega)
    rw [allV_len]; omega
  refine l13_6 hL hM hB hR hT (by omega) (by omega) (by omega) (by omega) lT (fun t ht q => by have := allV_get c (by omega) t ht q; omega) (fun t ht => ?_) (fun t ht => ?_) (H0 := Heap.empty.begin.new (.cells [v, .int .u8 n] none)) (by show 0 ≤ _; omega) _ 0 _ _ rfl (by omega) ?_ ?_ ?_ ?_ ?_ ?_ ?_ (.refl _) fun σ1 H1 g5 go => ?_
  any_goals (first | (simp; done) | skip)
  · rw [mB.any_le fun x hx => ?_, lcms_any]
    obtain ⟨a, ha, b, hb, rfl⟩ := lcms_mem.1 hx
    exact max_nn (bL a ha).nn (bM b hb).nn
  · rw [mR.any_le fun x hx => ?_, rad_any bL fun q => by have := allV_get c (by omega) t ht q; omega]
    obtain ⟨a, ha, rfl⟩ := List.mem_map.1 hx
    exact rad_nn (bL a ha)
  · have hws : H1.ws = [] := go.ws
    simp -implicitDefEqProofs (disch := first | omega | with_unfolding_all exact eqR (Eq.refl _)) [nums, -getElem!_pos, -Int.natCast_add, -Int.natCast_mul, -Int.natCast_ediv, S13_7, g5, wrap_quiet (H1 := Heap.empty) (v := .bool true) hws rfl]
    exact .mk (hQ _ _ rfl)
end
end Go.Mach.Ytl
