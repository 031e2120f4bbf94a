/-
  monomial.All; law 6 (MonomialLimits). By an AI agent.
-/
import Derived.Test.YtlbihaiejbpjoaaPb
import Derived.Test.YtlbihaiejbpjoaaCs
set_option linter.unusedSimpArgs false
set_option linter.unusedVariables false
set_option maxRecDepth 100000
namespace Go.Mach
theorem Acc.frz' {α : Type} {t : Ty α} {H0 H : Heap} {v : AV} {l : List α} (h : Acc t H0 H v l) (hb : H.base ≤ H0.next) {b : Nat} (hbn : b ≤ H0.next) (m : Nat) : ∃ v' H', Mach.frz b (m + 1) H v = some (v', H') ∧ ML t v' l ∧ H'.ws = H.ws := by
  cases h with
  | nil => exact ⟨.nils, H, rfl, .inl ⟨rfl, rfl⟩, rfl⟩
  | vec => exact ⟨.vec 0 true [], H, rfl, .inr ⟨true, rfl⟩, rfl⟩
  | live id rel l n hn hobj hid hidn hrel hne =>
    subst hn
    have hl : (t.row l).length = l.length * t.e := t.row_length l
    refine ⟨.vec l.length false (t.row l), (H.kill rel).set id (.frz (t.row l)), ?_, .inr ⟨false, rfl⟩, ?_⟩
    · rw [Mach.frz, if_neg (by omega), hobj]
      simp only [t.row_pure, if_true]
      rw [if_pos ⟨by omega, Nat.le_refl _⟩, List.drop_zero, List.take_of_length_le (by omega)]
      rfl
    · have hk : (H.kill rel).ws = H.ws ∧ (H.kill rel).base = H.base := by
        cases rel with
        | none => exact ⟨rfl, rfl⟩
        | some r =>
          have := (hrel r rfl).1
          refine ⟨?_, rfl⟩
          simp only [Heap.kill, Heap.set]; rw [if_neg (by omega)]
      simp only [Heap.set]
      rw [hk.2, if_neg (by omega)]; exact hk.1
namespace Ytl
section
variable {Q : AV → Heap → Prop}
/-- All monomials of degree d in n variables. -/
def allL (n d : Nat) : List Mo := fillL n 0 d Mo.zero
theorem call_46 {n d : Nat} {H : Heap} (hn : n ≤ 8) (hd : d ≤ 12) : Res (callI tab 46 [.int .i64 n, .int .i64 d] H) fun e H' => H' = H ∧ ∃ v, e = .tup [v, .int .i64 0] ∧ ML tM v (allL n d) := by
  refine .hide fun Q hQ => .enter tab_46 (by simp [AF46]) (.inr (by simp)) ?_
  simp -implicitDefEqProofs (disch := first | omega | with_unfolding_all exact eqR (Eq.refl _)) [nums, -getElem!_pos, -Int.natCast_add, -Int.natCast_mul, -Int.natCast_ediv, AF46, load1, S46_0, store1]
  have hS0 : ∀ (K : Heap), K = (((((H.begin.new (.cells [.int .i64 n] none)).new (.cells [.nils] none)).set (H.next + 1) (.cells [.vec 0 true []] none)).new (.cells Mo.zero.cells none)).new (.cells [.nilf] none)).set (H.next + 1 + 1 + 1) (.cells [.fn 86 [] [.ptr H.next 0, .ptr (H.next + 1 + 1) 0, .ptr (H.next + 1 + 1 + 1) 0, .ptr (H.next + 1) 0]] none) →
      Ids.Ok ⟨H.next, H.next + 1, H.next + 1 + 1, H.next + 1 + 1 + 1⟩ K n ∧ Ids.S ⟨H.next, H.next + 1, H.next + 1 + 1, H.next + 1 + 1 + 1⟩ K K Mo.zero [] ∧ K.base = H.next ∧ K.ws = [] ∧ K.next = H.next + 4 := by
    intro K hK
    have hnx : K.next = H.next + 4 := by rw [hK]; rfl
    have hbs : K.base = H.next := by rw [hK]; rfl
    have hws : K.ws = [] := by rw [hK]; simp [Heap.set, Heap.new, Heap.begin]; omega
    have a1 : ¬ H.next = H.next + 1 + 1 + 1 := by omega
    have a2 : ¬ H.next = H.next + 1 + 1 := by omega
    have a3 : ¬ H.next + 1 + 1 = H.next := by omega
    have a4 : H.next ≤ H.next + 1 + 1 := by omega
    refine ⟨⟨by simp [hnx], by simp [hnx], by simp [hnx], by simp [hnx], by simp, by simp [a2], by simp [a3], by simp, by simp, by simp [hbs, a4], by simp [hbs], by simp [hbs, hnx], ?_, ?_⟩, ⟨Nat.le_refl _, Nat.le_refl _, fun _ _ _ _ => rfl, ?_, .vec 0 true [], ?_, .vec⟩, hbs, hws, hnx⟩
    all_goals (rw [hK]; simp [Ids.fnv, a1, a2, a3])
  obtain ⟨ok, hS, hbase, hws, hnext⟩ := hS0 _ rfl
  have hfill := fill_ok ok hn n 0 d _ Mo.zero [] (by omega) hd hS (by rw [hbase, hnext]; omega) (by
    have : 13 ^ n ≤ 13 ^ 8 := Nat.pow_le_pow_right (by omega) hn
    simp; omega)
  refine .call hfill fun e H2 ⟨he, hb2, hT, m', hS2, hA⟩ => ?_
  subst he
  obtain ⟨v, hv, ha⟩ := hS2.out
  have hv' : H2.obj (H.next + 1) = .cells [v] none := hv
  have hb3 : H2.base = H.next := hT.base.trans hbase
  have hw2 : H2.ws = [] := by
    apply List.eq_nil_iff_forall_not_mem.2
    intro i hi
    rcases hT.wsI i hi with h | ⟨h1, h2⟩
    · rw [hws] at h; cases h
    · omega
  obtain ⟨v', H3, hz, hml, hw3⟩ := ha.frz' (by rw [hb3, hnext]; omega) (b := H.next) (by rw [hnext]; omega) 4
  have hz' : frz H.next 5 H2 v = some (v', H3) := hz
  have hnn := hml.nonew H.next 2
  have hq : (AV.tup [v', .int .i64 0]).noNew H.next 4 = true := by simp [hnn]
  have hw3' : H3.ws = [] := hw3.trans hw2
  simp -implicitDefEqProofs (disch := first | omega | with_unfolding_all exact eqR (Eq.refl _)) [nums, -getElem!_pos, -Int.natCast_add, -Int.natCast_mul, -Int.natCast_ediv, load1, hv', hz']
  rw [List.nil_append] at hml
  exact .mk (hQ _ _ ⟨rfl, v', rfl, hml⟩)
theorem call_46n {n d : Int} {H : Heap} (h : ¬ (0 ≤ n ∧ n ≤ 8 ∧ 0 ≤ d ∧ d ≤ 12)) : callI tab 46 [.int .i64 n, .int .i64 d] H = some (.tup [.nils, .int .i64 1], H) := by
  refine callI_enter tab_46 (by simp [AF46]) (.inr (by simp)) ?_
  by_cases h1 : n < 0
  · simp -implicitDefEqProofs (disch := first | omega | with_unfolding_all exact eqR (Eq.refl _)) [nums, -getElem!_pos, -Int.natCast_add, -Int.natCast_mul, -Int.natCast_ediv, AF46, load1]
  · by_cases h2 : 8 < n
    · simp -implicitDefEqProofs (disch := first | omega | with_unfolding_all exact eqR (Eq.refl _)) [nums, -getElem!_pos, -Int.natCast_add, -Int.natCast_mul, -Int.natCast_ediv, AF46, load1]
    · by_cases h3 : d < 0
      · simp -implicitDefEqProofs (disch := first | omega | with_unfolding_all exact eqR (Eq.refl _)) [nums, -getElem!_pos, -Int.natCast_add, -Int.natCast_mul, -Int.natCast_ediv, AF46, load1]
      · have h4 : 12 < d := by omega
        simp -implicitDefEqProofs (disch := first | omega | with_unfolding_all exact eqR (Eq.refl _)) [nums, -getElem!_pos, -Int.natCast_add, -Int.natCast_mul, -Int.natCast_ediv, AF46, load1]
end
end Ytl
end Go.Mach
