/-
  ComponentsMatchReference: all functions of components: the law's call returns true whatever comes in, and leaves it as it was; no condition. By an AI agent.
-/
import Derived.Test.YtlbihaiejbpjoaaGreatZ10Fw
import Derived.Test.YtlbihaiejbpjoaaGreatZ10Ye
set_option linter.unusedSimpArgs false
namespace Go.Proofs.YtlbihaiejbpjoaaGreat
open Go.ChangeShapes Go.WideShapes Go.ChangeAt Go.RowKit Go.Mach Go.Mach.Ytl
set_option linter.unusedVariables false
set_option maxRecDepth 100000
theorem walk3 {H : Type} {enc : TypeId × Value → H} {d0 : DataW H} {p0 : List MemPlace} {d1 : DataW H} {p1 : List MemPlace} {v0 v1 : Value} {w : World} {base : Nat} (h0 : Value.okWide Tryz.prog w .any base 25 v0) (k0 : DataW.Trod enc Tryz.prog w 0 (fun _ => true) true 25 v0 d0 p0) (h1 : Value.okWide Tryz.prog w .any base 23 v1) (k1 : DataW.Trod enc Tryz.prog w 0 (fun _ => true) true 23 v1 d1 p1) : Calls Tryz.prog 3 #[v0, v1] w fun e w' => e = .returned (.bool true) ∧ Below w.heap.size w w' := by
  obtain ⟨x0, n0, l0, m0, g0, b0, c0, r0⟩ := input_in h0 k0
  obtain ⟨x1, l1, m1, b1, c1, r1⟩ := quads_in h1 k1
  obtain ⟨e, H', hc, rfl⟩ := law10z m0 m1 g0 b0 b1 c0 c1
  obtain ⟨n, hn⟩ := callI_ex hc
  refine top_bool tabOK hn rfl fun i k1 k2 => ?_
  match i, k1 with
  | 0, _ => exact r0
  | 1, _ => exact r1
theorem lifted3 (os : Os) (started : os.Started) (H : Type) (enc : TypeId × Value → H) :
    ReturnsInHanded {} Tryz.checked os 3 .any (Rows.componentsMatchReferenceSpec.pre6 enc Tryz.prog Tryz.f3 Rows.componentsMatchReferenceRow.domain false) (Rows.componentsMatchReferenceSpec.post enc Tryz.prog Tryz.f3 false true false false) := by
  refine returnsInHanded_of_change (C := Tryz.checked) own started (by kernel_rfl) Tryz.func3
    (ChangeSpec.witness6 (enc := enc) (C := Tryz.checked) false ⟨#[], #[.agg #[.slice none 0 0, .int .u8 0], .slice none 0 0], []⟩ 8 (by kernel_rfl) (by kernel_rfl) (by kernel_rfl) (by kernel_rfl)) ?_
  intro W base args ds gs before hval0 hW hcnd _
  have hval : ∀ (j : Nat) t v, Tryz.f3.params[j]? = some t → args[j]? = some v → Value.okWide Tryz.prog W .any base t v := hval0
  have hW' := hW
  obtain ⟨p, q, hA0, hV, rfl, hfz, hnd⟩ := hW
  have hA : DataW.TrodAll enc Tryz.prog W 0 (fun _ => true) true Tryz.f3.params.toList args.toList ds p := hA0
  rw [Tryz.params3] at hA hval
  obtain ⟨v0, vs0, d0, ds0, p0, q0, hargs, rfl, rfl, h0, r0⟩ := trodAll_cons hA
  obtain ⟨v1, vs1, d1, ds1, p1, q1, rfl, rfl, rfl, h1, r1⟩ := trodAll_cons r0
  obtain ⟨rfl, rfl, rfl⟩ := trodAll_nil r1
  obtain rfl : args = #[v0, v1] := by cases args; simp_all
  obtain ⟨rfl, rfl⟩ := trodVars_none hV
  have k0 := h0
  have lt0 : ∀ x ∈ p0, x.block < W.heap.size := by obtain ⟨m, hm⟩ := k0; exact DataW.trod_lt m _ _ _ hm
  have k1 := h1
  have lt1 : ∀ x ∈ p1, x.block < W.heap.size := by obtain ⟨m, hm⟩ := k1; exact DataW.trod_lt m _ _ _ hm
  refine (walk3 (hval 0 25 v0 rfl rfl) h0 (hval 1 23 v1 rfl rfl) h1).mono fun e W' ⟨he, bel⟩ => ?_
  subst he
  exact ⟨_, rfl, _, _, _, [], _, [], hW', trodAll_mk1 (shut_bool Tryz.underlying4 _), (trodAll_cons_mk (Below.trod laidOut (by kernel_rfl) (of_decide_eq_true (by kernel_rfl)) k0 bel lt0) (trodAll_cons_mk (Below.trod laidOut (by kernel_rfl) (of_decide_eq_true (by kernel_rfl)) k1 bel lt1) trodAll_mk0)), rfl, bel.frame _, fun h => by cases h⟩
theorem place3 : Tryz.prog.inPlace 3 = [] := by kernel_rfl
theorem unf3 : Tryz.prog.unfollowed 3 = true := by kernel_rfl
theorem rec3 : Tryz.prog.recurses 3 = true := by kernel_rfl
theorem named3 : Tryz.prog.varsNamed 3 = [] := by kernel_rfl
theorem found3 : Tryz.prog.funcNamed Rows.componentsMatchReferenceRow.func = some 3 := by kernel_rfl
theorem closed3 : joinedFacts Tryz.prog 3 Tryz.f3 Rows.componentsMatchReferenceSpec Rows.componentsMatchReferenceRow = true := by
  unfold joinedFacts
  rw [laidOut, cMaps, cHeard, cEnter, cLift, cMake, cKeys, place3, unf3, rec3, named3]
  kernel_rfl
theorem wrap3 : Tryz.f3.isWrapper Tryz.prog Rows.componentsMatchReferenceRow.wrapper Rows.componentsMatchReferenceRow.mainSum := by
  unfold Func.isWrapper; first | (rw [if_pos (by decide +kernel)]; kernel_rfl) | (rw [if_neg (by decide +kernel)]; exact ⟨rfl, rfl⟩)
theorem inst3 : Tryz.f3.isInstance Tryz.prog Rows.componentsMatchReferenceRow.origin Rows.componentsMatchReferenceRow.targs := of_decide_eq_true (by kernel_rfl)
theorem over3 : Rows.componentsMatchReferenceRow.holds Tryz.pinned (OpenSpec.ofChange Rows.componentsMatchReferenceSpec) :=
  OpenClaim.holds_of_wide 3 Tryz.f3 rfl rfl rfl rfl rfl rfl rfl ⟨rfl, rfl, rfl, rfl, rfl⟩ rfl rfl rfl rfl rfl found3 Tryz.func3 closed3 inst3 wrap3
    (fun os started H enc _ => lifted3 os started H enc)
theorem componentsMatchReference_proved : Rows.ComponentsMatchReferenceSaid := over3
#print axioms componentsMatchReference_proved
end Go.Proofs.YtlbihaiejbpjoaaGreat
