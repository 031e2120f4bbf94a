/-
  ComponentsDimensions: dimensions: the law's call returns true whatever comes in, and leaves it as it was; no condition. By an AI agent.
-/
import Derived.Test.YtlbihaiejbpjoaaZ4Fw
import Derived.Test.YtlbihaiejbpjoaaZ4Si
set_option linter.unusedSimpArgs false
namespace Go.Proofs.Ytlbihaiejbpjoaa
open Go.ChangeShapes Go.WideShapes Go.ChangeAt Go.RowKit Go.Mach Go.Mach.Ytl
set_option linter.unusedVariables false
set_option maxRecDepth 100000
theorem walk4 {H : Type} {enc : TypeId × Value → H} {d0 : DataW H} {p0 : List MemPlace} {v0 : Value} {w : World} {base : Nat} (h0 : Value.okWide Try.prog w .any base 39 v0) (k0 : DataW.Trod enc Try.prog w 0 (fun _ => true) true 39 v0 d0 p0) : Calls Try.prog 4 #[v0] w fun e w' => e = .returned (.bool true) ∧ Below w.heap.size w w' := by
  obtain ⟨x0, n0, l0, m0, g0, b0, c0, r0⟩ := input_in h0 k0
  obtain ⟨e, H', hc, rfl⟩ := law4 m0 g0 b0 c0
  obtain ⟨n, hn⟩ := callI_ex hc
  refine top_bool tabOK hn rfl fun i k1 k2 => ?_
  match i, k1 with
  | 0, _ => exact r0
theorem lifted4 (os : Os) (started : os.Started) (H : Type) (enc : TypeId × Value → H) :
    ReturnsInHanded {} Try.checked os 4 .any (Rows.componentsDimensionsSpec.pre6 enc Try.prog Try.f4 Rows.componentsDimensionsRow.domain false) (Rows.componentsDimensionsSpec.post enc Try.prog Try.f4 false true false false) := by
  refine returnsInHanded_of_change (C := Try.checked) own started (by kernel_rfl) Try.func4
    (ChangeSpec.witness6 (enc := enc) (C := Try.checked) false ⟨#[], #[.agg #[.slice none 0 0, .int .u8 0]], []⟩ 8 (by kernel_rfl) (by kernel_rfl) (by kernel_rfl) (by kernel_rfl)) ?_
  intro W base args ds gs before hval0 hW hcnd _
  have hval : ∀ (j : Nat) t v, Try.f4.params[j]? = some t → args[j]? = some v → Value.okWide Try.prog W .any base t v := hval0
  have hW' := hW
  obtain ⟨p, q, hA0, hV, rfl, hfz, hnd⟩ := hW
  have hA : DataW.TrodAll enc Try.prog W 0 (fun _ => true) true Try.f4.params.toList args.toList ds p := hA0
  rw [Try.params4] at hA hval
  obtain ⟨v0, vs0, d0, ds0, p0, q0, hargs, rfl, rfl, h0, r0⟩ := trodAll_cons hA
  obtain ⟨rfl, rfl, rfl⟩ := trodAll_nil r0
  obtain rfl : args = #[v0] := by cases args; simp_all
  obtain ⟨rfl, rfl⟩ := trodVars_none hV
  have k0 := h0
  have lt0 : ∀ x ∈ p0, x.block < W.heap.size := by obtain ⟨m, hm⟩ := k0; exact DataW.trod_lt m _ _ _ hm
  refine (walk4 (hval 0 39 v0 rfl rfl) h0).mono fun e W' ⟨he, bel⟩ => ?_
  subst he
  exact ⟨_, rfl, _, _, _, [], _, [], hW', trodAll_mk1 (shut_bool Try.underlying4 _), (trodAll_cons_mk (Below.trod laidOut (by kernel_rfl) (of_decide_eq_true (by kernel_rfl)) k0 bel lt0) trodAll_mk0), rfl, bel.frame _, fun h => by cases h⟩
theorem place4 : Try.prog.inPlace 4 = [] := by kernel_rfl
theorem unf4 : Try.prog.unfollowed 4 = true := by kernel_rfl
theorem rec4 : Try.prog.recurses 4 = true := by kernel_rfl
theorem named4 : Try.prog.varsNamed 4 = [] := by kernel_rfl
theorem found4 : Try.prog.funcNamed Rows.componentsDimensionsRow.func = some 4 := by kernel_rfl
theorem closed4 : joinedFacts Try.prog 4 Try.f4 Rows.componentsDimensionsSpec Rows.componentsDimensionsRow = true := by
  unfold joinedFacts
  rw [laidOut, cMaps, cHeard, cEnter, cLift, cMake, cKeys, place4, unf4, rec4, named4]
  kernel_rfl
theorem wrap4 : Try.f4.isWrapper Try.prog Rows.componentsDimensionsRow.wrapper Rows.componentsDimensionsRow.mainSum := by
  unfold Func.isWrapper; first | (rw [if_pos (by decide +kernel)]; kernel_rfl) | (rw [if_neg (by decide +kernel)]; exact ⟨rfl, rfl⟩)
theorem inst4 : Try.f4.isInstance Try.prog Rows.componentsDimensionsRow.origin Rows.componentsDimensionsRow.targs := of_decide_eq_true (by kernel_rfl)
theorem over4 : Rows.componentsDimensionsRow.holds Try.pinned (OpenSpec.ofChange Rows.componentsDimensionsSpec) :=
  OpenClaim.holds_of_wide 4 Try.f4 rfl rfl rfl rfl rfl rfl rfl ⟨rfl, rfl, rfl, rfl, rfl⟩ rfl rfl rfl rfl rfl found4 Try.func4 closed4 inst4 wrap4
    (fun os started H enc _ => lifted4 os started H enc)
theorem componentsDimensions_proved : Rows.ComponentsDimensionsSaid := over4
#print axioms componentsDimensions_proved
end Go.Proofs.Ytlbihaiejbpjoaa
