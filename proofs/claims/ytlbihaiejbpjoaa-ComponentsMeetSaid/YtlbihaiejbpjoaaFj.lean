/-
  ComponentsMeet: intersections and radicals: the law's call returns true whatever comes in, and leaves it as it was; no condition. By an AI agent.
-/
import Derived.Test.YtlbihaiejbpjoaaFw
import Derived.Test.YtlbihaiejbpjoaaQg
set_option linter.unusedSimpArgs false
namespace Go.Proofs.Ytlbihaiejbpjoaa
open Go.ChangeShapes Go.WideShapes Go.ChangeAt Go.RowKit Go.Mach Go.Mach.Ytl
set_option linter.unusedVariables false
set_option maxRecDepth 100000

theorem walk13 {H : Type} {enc : TypeId × Value → H} {d0 : DataW H} {p0 : List MemPlace} {d1 : DataW H} {p1 : List MemPlace} {v0 v1 : Value} {w : World} {base : Nat} (h0 : Value.okWide Try.prog w .any base 39 v0) (k0 : DataW.Trod enc Try.prog w 0 (fun _ => true) true 39 v0 d0 p0) (h1 : Value.okWide Try.prog w .any base 37 v1) (k1 : DataW.Trod enc Try.prog w 0 (fun _ => true) true 37 v1 d1 p1) : Calls Try.prog 13 #[v0, v1] w fun e w' => e = .returned (.bool true) ∧ Below w.heap.size w w' := by
  obtain ⟨x0, n0, l0, m0, g0, b0, c0, r0⟩ := input_in h0 k0
  obtain ⟨x1, l1, m1, b1, c1, r1⟩ := quads_in h1 k1
  obtain ⟨e, H', hc, rfl⟩ := law13 m0 m1 g0 b0 b1 c0 c1
  obtain ⟨n, hn⟩ := callI_ex hc
  refine top_bool tabOK hn rfl fun i k1 k2 => ?_
  match i, k1 with
  | 0, _ => exact r0
  | 1, _ => exact r1

theorem lifted13 (os : Os) (started : os.Started) (H : Type) (enc : TypeId × Value → H) :
    ReturnsInHanded {} Try.checked os 13 .any (Rows.componentsMeetSpec.pre6 enc Try.prog Try.f13 Rows.componentsMeetRow.domain false) (Rows.componentsMeetSpec.post enc Try.prog Try.f13 false true false false) := by
  refine returnsInHanded_of_change (C := Try.checked) own started (by kernel_rfl) Try.func13
    (ChangeSpec.witness6 (enc := enc) (C := Try.checked) false ⟨#[], #[.agg #[.slice none 0 0, .int .u8 0], .slice none 0 0], []⟩ 8 (by kernel_rfl) (by kernel_rfl) (by kernel_rfl) (by kernel_rfl)) ?_
  intro W base args ds gs before hval0 hW hcnd _
  have hval : ∀ (j : Nat) t v, Try.f13.params[j]? = some t → args[j]? = some v → Value.okWide Try.prog W .any base t v := hval0
  have hW' := hW
  obtain ⟨p, q, hA0, hV, rfl, hfz, hnd⟩ := hW
  have hA : DataW.TrodAll enc Try.prog W 0 (fun _ => true) true Try.f13.params.toList args.toList ds p := hA0
  rw [Try.params13] at hA hval
  obtain ⟨v0, vs0, d0, ds0, p0, q0, hargs, rfl, rfl, h0, r0⟩ := trodAll_cons hA
  obtain ⟨v1, vs1, d1, ds1, p1, q1, rfl, rfl, rfl, h1, r1⟩ := trodAll_cons r0
  obtain ⟨rfl, rfl, rfl⟩ := trodAll_nil r1
  obtain rfl : args = #[v0, v1] := by cases args; simp_all
  obtain ⟨rfl, rfl⟩ := trodVars_none hV
  have k0 := h0
  have lt0 : ∀ x ∈ p0, x.block < W.heap.size := by obtain ⟨m, hm⟩ := k0; exact DataW.trod_lt m _ _ _ hm
  have k1 := h1
  have lt1 : ∀ x ∈ p1, x.block < W.heap.size := by obtain ⟨m, hm⟩ := k1; exact DataW.trod_lt m _ _ _ hm
  refine (walk13 (hval 0 39 v0 rfl rfl) h0 (hval 1 37 v1 rfl rfl) h1).mono fun e W' ⟨he, bel⟩ => ?_
  subst he
  exact ⟨_, rfl, _, _, _, [], _, [], hW', trodAll_mk1 (shut_bool Try.underlying4 _), (trodAll_cons_mk (Below.trod laidOut (by kernel_rfl) (of_decide_eq_true (by kernel_rfl)) k0 bel lt0) (trodAll_cons_mk (Below.trod laidOut (by kernel_rfl) (of_decide_eq_true (by kernel_rfl)) k1 bel lt1) trodAll_mk0)), rfl, bel.frame _, fun h => by cases h⟩

theorem place13 : Try.prog.inPlace 13 = [] := by kernel_rfl
theorem unf13 : Try.prog.unfollowed 13 = true := by kernel_rfl
theorem rec13 : Try.prog.recurses 13 = true := by kernel_rfl
theorem named13 : Try.prog.varsNamed 13 = [] := by kernel_rfl
theorem found13 : Try.prog.funcNamed Rows.componentsMeetRow.func = some 13 := by kernel_rfl
theorem closed13 : joinedFacts Try.prog 13 Try.f13 Rows.componentsMeetSpec Rows.componentsMeetRow = true := by
  unfold joinedFacts
  rw [laidOut, cMaps, cHeard, cEnter, cLift, cMake, cKeys, place13, unf13, rec13, named13]
  kernel_rfl
theorem wrap13 : Try.f13.isWrapper Try.prog Rows.componentsMeetRow.wrapper Rows.componentsMeetRow.mainSum := by
  unfold Func.isWrapper; first | (rw [if_pos (by decide +kernel)]; kernel_rfl) | (rw [if_neg (by decide +kernel)]; exact ⟨rfl, rfl⟩)
theorem inst13 : Try.f13.isInstance Try.prog Rows.componentsMeetRow.origin Rows.componentsMeetRow.targs := of_decide_eq_true (by kernel_rfl)
theorem over13 : Rows.componentsMeetRow.holds Try.pinned (OpenSpec.ofChange Rows.componentsMeetSpec) :=
  OpenClaim.holds_of_wide 13 Try.f13 rfl rfl rfl rfl rfl rfl rfl ⟨rfl, rfl, rfl, rfl, rfl⟩ rfl rfl rfl rfl rfl found13 Try.func13 closed13 inst13 wrap13
    (fun os started H enc _ => lifted13 os started H enc)
theorem componentsMeet_proved : Rows.ComponentsMeetSaid := over13
#print axioms componentsMeet_proved
end Go.Proofs.Ytlbihaiejbpjoaa
