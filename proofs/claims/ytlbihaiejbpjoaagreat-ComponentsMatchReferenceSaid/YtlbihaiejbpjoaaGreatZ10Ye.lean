/-
  Pruned copy of the text Ye. By an AI agent.
-/
import Derived.Test.YtlbihaiejbpjoaaGreatZ10Yd
set_option linter.unusedSimpArgs false
set_option linter.unusedVariables false
set_option maxRecDepth 100000
namespace Go.Mach.Ytl
open Go.Mach
theorem mg_unique {A g g' : List Mo} (h : Mg A g) (h' : Mg A g') : g = g' :=
  min_unique h.min h'.min h.nn h'.nn fun t ht => by rw [h.sem t ht, h'.sem t ht]
section
variable {s : List Jtm} {k : KF} {Q : AV → Heap → Prop}
attribute [local simp] guardI_u
theorem law10z {v vy : AV} {l ly : List Mo} {n : Nat} (hv : ML tQ v l) (hy : ML tQ vy ly) (hn : n < 256) (hby : ∀ m ∈ l, Bytes m) (hby2 : ∀ m ∈ ly, Bytes m) (hll : l.length < 2 ^ 63) (hly : ly.length < 2 ^ 63) : Res (callI tab 3 [inp v n, vy] Heap.empty) fun e _ => e = .bool true := by
  have hf := inp_flat (n := n) hv
  have hz : frz 0 6 Heap.empty (inp v n) = some (inp v n, Heap.empty) := inp_frz (n := n) hv 0 4 Heap.empty
  have hzy : frz 0 6 Heap.empty vy = some (vy, Heap.empty) := hy.frz 0 5 Heap.empty
  refine .hide fun Q hQ => .enter tab_1003 (by simp [AF1003]) (.inr (by simp [hz, hzy])) ?_
  have hs : callI tab 4 [] (Heap.empty.begin.new (.cells [v, .int .u8 n] none)) = some (.bool true, Heap.empty.begin.new (.cells [v, .int .u8 n] none)) := callI_of (san21_1 _)
  have hin : AV.agg [v, .int .u8 n] = inp v n := rfl
  have c24 := fun H => call_24 hv hn (H := H)
  have hc5 : n % 5 ≤ 4 := by omega
  have h52 := fun H => call_52 (n := n % 5) (most := 8) (H := H) hv (by omega) (by omega) hby hll
  have h52y := fun H => call_52 (n := n % 5) (most := 5) (H := H) hy (by omega) (by omega) hby2 hly
  rw [show ((8 : Nat) : Int) = 8 from rfl] at h52
  rw [show ((5 : Nat) : Int) = 5 from rfl] at h52y
  generalize hc : n % 5 = c at *
  simp -implicitDefEqProofs (disch := first | omega | with_unfolding_all exact eqR (Eq.refl _)) [nums, -getElem!_pos, -Int.natCast_add, -Int.natCast_mul, -Int.natCast_ediv, AF1003, hf, hs, S1003_0, ld20, load20, hin, c24]
  refine .call (h52 _) fun e H1 ⟨hH, L, hL, l1, bL⟩ => ?_
  subst hH
  simp -implicitDefEqProofs (disch := first | omega | with_unfolding_all exact eqR (Eq.refl _)) [nums, -getElem!_pos, -Int.natCast_add, -Int.natCast_mul, -Int.natCast_ediv]
  refine .call (h52y _) fun ey H2 ⟨hH, M, hM, l2, bM⟩ => ?_
  subst hH
  have hB := good_len hc5 bL
  have h19 : ∀ H, Res (callI tab 7 [e, .int .i64 (c : Nat)] H) fun e H' => H' = H ∧ ∃ w P, e = .tup [w, .int .i64 0] ∧ ML tM w P ∧ Irr L P := fun H => call_19 (n := c) hL (by omega) (fun m hm => ⟨(bL m hm).valid, fun q _ h => by rw [(bL m hm q).2.2 h]; omega⟩) (by omega) hB
  have hX : ∀ P, Irr L P → P.length ≤ 1000 := fun P h => hB P h.good
  have hBg : ∀ P, Irr L P → ∀ S' r, (∀ a ∈ S', a ∈ P) → Mg S' r → r.length ≤ 1000 := fun P h S' r hS hm => by
    have := (hm.mt fun a ha => h.good.box bL a (hS a ha)).len hc5; omega
  simp -implicitDefEqProofs (disch := first | omega | with_unfolding_all exact eqR (Eq.refl _)) [nums, -getElem!_pos, -Int.natCast_add, -Int.natCast_mul, -Int.natCast_ediv]
  refine .call (h19 _) fun e1 H1 ⟨hH, w1, P, he, hm1, hirr⟩ => ?_
  subst hH he
  simp -implicitDefEqProofs (disch := first | omega | with_unfolding_all exact eqR (Eq.refl _)) [nums, -getElem!_pos, -Int.natCast_add, -Int.natCast_mul, -Int.natCast_ediv]
  refine .call (call_1008 hL hc5 bL l1) fun e1 H1 ⟨hH, w2, P2, he, hm2, hirr2⟩ => ?_
  subst hH he
  have hP2 := irr_unique bL hirr2 hirr
  subst hP2
  simp -implicitDefEqProofs (disch := first | omega | with_unfolding_all exact eqR (Eq.refl _)) [nums, -getElem!_pos, -Int.natCast_add, -Int.natCast_mul, -Int.natCast_ediv]
  refine .call (call_20 hL h19 hX) fun e1 H1 ⟨hH, P3, S, w3, hirr3, he, hm3, hs3⟩ => ?_
  subst hH he
  have hP3 := irr_unique bL hirr3 hirr
  subst hP3
  simp -implicitDefEqProofs (disch := first | omega | with_unfolding_all exact eqR (Eq.refl _)) [nums, -getElem!_pos, -Int.natCast_add, -Int.natCast_mul, -Int.natCast_ediv]
  refine .call (call_1010 hL hc5 bL l1) fun e1 H1 ⟨hH, P4, S4, w4, hirr4, he, hm4, hs4⟩ => ?_
  subst hH he
  have hP4 := irr_unique bL hirr4 hirr
  subst hP4
  have hS4 := sets_unique hs4 hs3
  subst hS4
  simp -implicitDefEqProofs (disch := first | omega | with_unfolding_all exact eqR (Eq.refl _)) [nums, -getElem!_pos, -Int.natCast_add, -Int.natCast_mul, -Int.natCast_ediv]
  refine .call (call_21 hL h19 hX) fun e1 H1 ⟨hH, P5, S5, w5, hirr5, he, hm5, hs5⟩ => ?_
  subst hH he
  have hP5 := irr_unique bL hirr5 hirr
  subst hP5
  have hS5 := sets_unique hs5 hs3
  subst hS5
  simp -implicitDefEqProofs (disch := first | omega | with_unfolding_all exact eqR (Eq.refl _)) [nums, -getElem!_pos, -Int.natCast_add, -Int.natCast_mul, -Int.natCast_ediv]
  refine .call (call_1012 hL hc5 bL l1) fun e1 H1 ⟨hH, P6, S6, w6, hirr6, he, hm6, hs6⟩ => ?_
  subst hH he
  have hP6 := irr_unique bL hirr6 hirr
  subst hP6
  have hS6 := sets_unique hs6 hs3
  subst hS6
  simp -implicitDefEqProofs (disch := first | omega | with_unfolding_all exact eqR (Eq.refl _)) [nums, -getElem!_pos, -Int.natCast_add, -Int.natCast_mul, -Int.natCast_ediv]
  refine .call (call_22 hL h19 hX hBg) fun e1 H1 ⟨hH, P7, S7, w7, pa, hirr7, he, hm7, hs7, hmap7, hall7⟩ => ?_
  subst hH he
  have hP7 := irr_unique bL hirr7 hirr
  subst hP7
  have hS7 := sets_unique hs7 hs3
  subst hS7
  simp -implicitDefEqProofs (disch := first | omega | with_unfolding_all exact eqR (Eq.refl _)) [nums, -getElem!_pos, -Int.natCast_add, -Int.natCast_mul, -Int.natCast_ediv]
  refine .call (call_1014 hL hc5 bL l1) fun e1 H1 ⟨hH, P8, S8, w8, pc, hirr8, he, hm8, hs8, hmap8, hall8⟩ => ?_
  subst hH he
  have hP8 := irr_unique bL hirr8 hirr
  subst hP8
  have hS8 := sets_unique hs8 hs3
  subst hS8
  have hlP := hX _ hirr
  have hlS := hs3.len
  have hla : pa.length = S8.length := by rw [← hmap7, List.length_map]
  have hlc : pc.length = S8.length := by rw [← hmap8, List.length_map]
  have hbx := hirr.good.box bL
  have hparts : ∀ (i : Nat) (h1 : i < pa.length) (h2 : i < pc.length), pa[i].s = pc[i].s ∧ pa[i].l = pc[i].l ∧ pa[i].l.length < 2 ^ 40 := fun i h1 h2 => by
    have g1 : (pa.map PV.s)[i]? = (pc.map PV.s)[i]? := by rw [hmap7, hmap8]
    rw [List.getElem?_map, List.getElem?_map, List.getElem?_eq_getElem h1, List.getElem?_eq_getElem h2] at g1
    simp only [Option.map_some, Option.some.injEq] at g1
    have m1 := hall7 _ (List.getElem_mem h1)
    have m2 := hall8 _ (List.getElem_mem h2)
    rw [← g1] at m2
    have m1' : Mg (grpL P8 pa[i].s) pa[i].l := m1
    refine ⟨g1, mg_unique m1' m2, ?_⟩
    have := (m1'.mt fun a ha => hbx a (grp_mem.1 ha).1).len hc5
    omega
  have c51a := fun H => call_51 (H := H) hm1 hm2 (by omega) (by omega)
  rw [decide_eq_true rfl] at c51a
  have c62a := fun H => call_62 (H := H) hm3 hm4
  have c62b := fun H => call_62 (H := H) hm5 hm6
  have c63 := fun H => call_63 (H := H) hm7 hm8 (by rw [hla, hlc]) (by omega) hparts
  obtain ⟨eB, HB, hcB, hHB, B, hBm, mB⟩ := call_53 (H := Heap.empty.begin.new (.cells [v, .int .u8 n] none)) hL hM (by omega) (by omega) (by have := Nat.mul_le_mul l1 l2; omega)
  subst hHB
  obtain ⟨eC, HC, hcC, hHC, B', hCm, mC⟩ := call_59 (H := Heap.empty.begin.new (.cells [v, .int .u8 n] none)) hL hM (by omega) (by omega) (by have := Nat.mul_le_mul l1 l2; omega)
  subst hHC
  have eBC := mB.congr mC fun _ => Iff.rfl
  subst eBC
  have lB : B.length ≤ 40 := by have := mB.len; rw [lcms_length] at this; have := Nat.mul_le_mul l1 l2; omega
  have c51b := fun H => call_51 (H := H) hBm hCm (by omega) (by omega)
  rw [decide_eq_true rfl] at c51b
  obtain ⟨eD, HD, hcD, hHD, R, hDm, mD⟩ := call_54 (H := Heap.empty.begin.new (.cells [v, .int .u8 n] none)) hL (by omega)
  subst hHD
  obtain ⟨eE, HE, hcE, hHE, R', hEm, mE⟩ := call_1021 (H := Heap.empty.begin.new (.cells [v, .int .u8 n] none)) hL (by omega)
  subst hHE
  have eDE := mD.congr mE fun _ => Iff.rfl
  subst eDE
  have lR : R.length ≤ 8 := by have := mD.len; rw [List.length_map] at this; omega
  have c51c := fun H => call_51 (H := H) hDm hEm (by omega) (by omega)
  rw [decide_eq_true rfl] at c51c
  simp -implicitDefEqProofs (disch := first | omega | with_unfolding_all exact eqR (Eq.refl _)) [nums, -getElem!_pos, -Int.natCast_add, -Int.natCast_mul, -Int.natCast_ediv, c51a, c62a, c62b, c63, hcB, hcC, c51b, hcD, hcE, c51c]
  exact .mk (hQ _ _ rfl)
end
end Go.Mach.Ytl
