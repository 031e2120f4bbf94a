/-
  ComponentsPrimes: associated primes: the law's call returns true whatever comes in, and leaves it as it was; no condition. By an AI agent.
-/
import Derived.Test.YtlbihaiejbpjoaaZ16Fw
import Derived.Test.YtlbihaiejbpjoaaZ16Sg
set_option linter.unusedSimpArgs false
namespace Go.Proofs.Ytlbihaiejbpjoaa
open Go.ChangeShapes Go.WideShapes Go.ChangeAt Go.RowKit Go.Mach Go.Mach.Ytl
set_option linter.unusedVariables false
set_option maxRecDepth 100000
theorem walk16 {H : Type} {enc : TypeId × Value → H} {d0 : DataW H} {p0 : List MemPlace} {v0 : Value} {w : World} {base : Nat} (h0 : Value.okWide Try.prog w .any base 39 v0) (k0 : DataW.Trod enc Try.prog w 0 (fun _ => true) true 39 v0 d0 p0) : Calls Try.prog 16 #[v0] w fun e w' => e = .returned (.bool true) ∧ Below w.heap.size w w' := by
  obtain ⟨x0, n0, l0, m0, g0, b0, c0, r0⟩ := input_in h0 k0
  obtain ⟨e, H', hc, rfl⟩ := law16 m0 g0 b0 c0
  obtain ⟨n, hn⟩ := callI_ex hc
  refine top_bool tabOK hn rfl fun i k1 k2 => ?_
  match i, k1 with
  | 0, _ => exact r0
theorem lifted16 (os : Os) (started : os.Started) (H : Type) (enc : TypeId × Value → H) :
    ReturnsInHanded {} Try.checked os 16 .any (Rows.componentsPrimesSpec.pre6 enc Try.prog Try.f16 Rows.componentsPrimesRow.domain false) (Rows.componentsPrimesSpec.post enc Try.prog Try.f16 false true false false) := by
  refine returnsInHanded_of_change (C := Try.checked) own started (by kernel_rfl) Try.func16
    (ChangeSpec.witness6 (enc := enc) (C := Try.checked) false ⟨#[], #[.agg #[.slice none 0 0, .int .u8 0]], []⟩ 8 (by kernel_rfl) (by kernel_rfl) (by kernel_rfl) (by kernel_rfl)) ?_
  intro W base args ds gs before hval0 hW hcnd _
  have hval : ∀ (j : Nat) t v, Try.f16.params[j]? = some t → args[j]? = some v → Value.okWide Try.prog W .any base t v := hval0
  have hW' := hW
  obtain ⟨p, q, hA0, hV, rfl, hfz, hnd⟩ := hW
  have hA : DataW.TrodAll enc Try.prog W 0 (fun _ => true) true Try.f16.params.toList args.toList ds p := hA0
  rw [Try.params16] at hA hval
  obtain ⟨v0, vs0, d0, ds0, p0, q0, hargs, rfl, rfl, h0, r0⟩ := trodAll_cons hA
  obtain ⟨rfl, rfl, rfl⟩ := trodAll_nil r0
  obtain rfl : args = #[v0] := by cases args; simp_all
  obtain ⟨rfl, rfl⟩ := trodVars_none hV
  have k0 := h0
  have lt0 : ∀ x ∈ p0, x.block < W.heap.size := by obtain ⟨m, hm⟩ := k0; exact DataW.trod_lt m _ _ _ hm
  refine (walk16 (hval 0 39 v0 rfl rfl) h0).mono fun e W' ⟨he, bel⟩ => ?_
  subst he
  exact ⟨_, rfl, _, _, _, [], _, [], hW', trodAll_mk1 (shut_bool Try.underlying4 _), (trodAll_cons_mk (Below.trod laidOut (by kernel_rfl) (of_decide_eq_true (by kernel_rfl)) k0 bel lt0) trodAll_mk0), rfl, bel.frame _, fun h => by cases h⟩
theorem place16 : Try.prog.inPlace 16 = [] := by kernel_rfl
theorem unf16 : Try.prog.unfollowed 16 = true := by kernel_rfl
theorem rec16 : Try.prog.recurses 16 = true := by kernel_rfl
theorem named16 : Try.prog.varsNamed 16 = [] := by kernel_rfl
theorem found16 : Try.prog.funcNamed Rows.componentsPrimesRow.func = some 16 := by kernel_rfl
theorem closed16 : joinedFacts Try.prog 16 Try.f16 Rows.componentsPrimesSpec Rows.componentsPrimesRow = true := by
  unfold joinedFacts
  rw [laidOut, cMaps, cHeard, cEnter, cLift, cMake, cKeys, place16, unf16, rec16, named16]
  kernel_rfl
theorem wrap16 : Try.f16.isWrapper Try.prog Rows.componentsPrimesRow.wrapper Rows.componentsPrimesRow.mainSum := by
  unfold Func.isWrapper; first | (rw [if_pos (by decide +kernel)]; kernel_rfl) | (rw [if_neg (by decide +kernel)]; exact ⟨rfl, rfl⟩)
theorem inst16 : Try.f16.isInstance Try.prog Rows.componentsPrimesRow.origin Rows.componentsPrimesRow.targs := of_decide_eq_true (by kernel_rfl)
theorem over16 : Rows.componentsPrimesRow.holds Try.pinned (OpenSpec.ofChange Rows.componentsPrimesSpec) :=
  OpenClaim.holds_of_wide 16 Try.f16 rfl rfl rfl rfl rfl rfl rfl ⟨rfl, rfl, rfl, rfl, rfl⟩ rfl rfl rfl rfl rfl found16 Try.func16 closed16 inst16 wrap16
    (fun os started H enc _ => lifted16 os started H enc)
theorem componentsPrimes_proved : Rows.ComponentsPrimesSaid := over16
#print axioms componentsPrimes_proved
end Go.Proofs.Ytlbihaiejbpjoaa
