/-
  ComponentsPrimary: primary parts: the law's call returns true whatever comes in, and leaves it as it was; no condition. By an AI agent.
-/
import Derived.Test.YtlbihaiejbpjoaaZ17Fw
import Derived.Test.YtlbihaiejbpjoaaZ17Sh
set_option linter.unusedSimpArgs false
namespace Go.Proofs.Ytlbihaiejbpjoaa
open Go.ChangeShapes Go.WideShapes Go.ChangeAt Go.RowKit Go.Mach Go.Mach.Ytl
set_option linter.unusedVariables false
set_option maxRecDepth 100000
theorem walk17 {H : Type} {enc : TypeId × Value → H} {d0 : DataW H} {p0 : List MemPlace} {v0 : Value} {w : World} {base : Nat} (h0 : Value.okWide Try.prog w .any base 39 v0) (k0 : DataW.Trod enc Try.prog w 0 (fun _ => true) true 39 v0 d0 p0) : Calls Try.prog 17 #[v0] w fun e w' => e = .returned (.bool true) ∧ Below w.heap.size w w' := by
  obtain ⟨x0, n0, l0, m0, g0, b0, c0, r0⟩ := input_in h0 k0
  obtain ⟨e, H', hc, rfl⟩ := law17 m0 g0 b0 c0
  obtain ⟨n, hn⟩ := callI_ex hc
  refine top_bool tabOK hn rfl fun i k1 k2 => ?_
  match i, k1 with
  | 0, _ => exact r0
theorem lifted17 (os : Os) (started : os.Started) (H : Type) (enc : TypeId × Value → H) :
    ReturnsInHanded {} Try.checked os 17 .any (Rows.componentsPrimarySpec.pre6 enc Try.prog Try.f17 Rows.componentsPrimaryRow.domain false) (Rows.componentsPrimarySpec.post enc Try.prog Try.f17 false true false false) := by
  refine returnsInHanded_of_change (C := Try.checked) own started (by kernel_rfl) Try.func17
    (ChangeSpec.witness6 (enc := enc) (C := Try.checked) false ⟨#[], #[.agg #[.slice none 0 0, .int .u8 0]], []⟩ 8 (by kernel_rfl) (by kernel_rfl) (by kernel_rfl) (by kernel_rfl)) ?_
  intro W base args ds gs before hval0 hW hcnd _
  have hval : ∀ (j : Nat) t v, Try.f17.params[j]? = some t → args[j]? = some v → Value.okWide Try.prog W .any base t v := hval0
  have hW' := hW
  obtain ⟨p, q, hA0, hV, rfl, hfz, hnd⟩ := hW
  have hA : DataW.TrodAll enc Try.prog W 0 (fun _ => true) true Try.f17.params.toList args.toList ds p := hA0
  rw [Try.params17] at hA hval
  obtain ⟨v0, vs0, d0, ds0, p0, q0, hargs, rfl, rfl, h0, r0⟩ := trodAll_cons hA
  obtain ⟨rfl, rfl, rfl⟩ := trodAll_nil r0
  obtain rfl : args = #[v0] := by cases args; simp_all
  obtain ⟨rfl, rfl⟩ := trodVars_none hV
  have k0 := h0
  have lt0 : ∀ x ∈ p0, x.block < W.heap.size := by obtain ⟨m, hm⟩ := k0; exact DataW.trod_lt m _ _ _ hm
  refine (walk17 (hval 0 39 v0 rfl rfl) h0).mono fun e W' ⟨he, bel⟩ => ?_
  subst he
  exact ⟨_, rfl, _, _, _, [], _, [], hW', trodAll_mk1 (shut_bool Try.underlying4 _), (trodAll_cons_mk (Below.trod laidOut (by kernel_rfl) (of_decide_eq_true (by kernel_rfl)) k0 bel lt0) trodAll_mk0), rfl, bel.frame _, fun h => by cases h⟩
theorem place17 : Try.prog.inPlace 17 = [] := by kernel_rfl
theorem unf17 : Try.prog.unfollowed 17 = true := by kernel_rfl
theorem rec17 : Try.prog.recurses 17 = true := by kernel_rfl
theorem named17 : Try.prog.varsNamed 17 = [] := by kernel_rfl
theorem found17 : Try.prog.funcNamed Rows.componentsPrimaryRow.func = some 17 := by kernel_rfl
theorem closed17 : joinedFacts Try.prog 17 Try.f17 Rows.componentsPrimarySpec Rows.componentsPrimaryRow = true := by
  unfold joinedFacts
  rw [laidOut, cMaps, cHeard, cEnter, cLift, cMake, cKeys, place17, unf17, rec17, named17]
  kernel_rfl
theorem wrap17 : Try.f17.isWrapper Try.prog Rows.componentsPrimaryRow.wrapper Rows.componentsPrimaryRow.mainSum := by
  unfold Func.isWrapper; first | (rw [if_pos (by decide +kernel)]; kernel_rfl) | (rw [if_neg (by decide +kernel)]; exact ⟨rfl, rfl⟩)
theorem inst17 : Try.f17.isInstance Try.prog Rows.componentsPrimaryRow.origin Rows.componentsPrimaryRow.targs := of_decide_eq_true (by kernel_rfl)
theorem over17 : Rows.componentsPrimaryRow.holds Try.pinned (OpenSpec.ofChange Rows.componentsPrimarySpec) :=
  OpenClaim.holds_of_wide 17 Try.f17 rfl rfl rfl rfl rfl rfl rfl ⟨rfl, rfl, rfl, rfl, rfl⟩ rfl rfl rfl rfl rfl found17 Try.func17 closed17 inst17 wrap17
    (fun os started H enc _ => lifted17 os started H enc)
theorem componentsPrimary_proved : Rows.ComponentsPrimarySaid := over17
#print axioms componentsPrimary_proved
end Go.Proofs.Ytlbihaiejbpjoaa
