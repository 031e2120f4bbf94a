/-
  MonomialLimits: limits of exponents and of lists: the law's call returns true whatever comes in, and leaves it as it was; no condition. By an AI agent.
-/
import Derived.Test.YtlbihaiejbpjoaaFt
set_option linter.unusedSimpArgs false
namespace Go.Proofs.Ytlbihaiejbpjoaa
open Go.ChangeShapes Go.WideShapes Go.ChangeAt Go.RowKit Go.Mach Go.Mach.Ytl
set_option linter.unusedVariables false
set_option maxRecDepth 100000

theorem walk6 {v0 v1 : Value} {w : World} {base : Nat} (h0 : Value.okWide Try.prog w .any base 24 v0) (h1 : Value.okWide Try.prog w .any base 60 v1) : Calls Try.prog 6 #[v0, v1] w fun e w' => e = .returned (.bool true) ∧ Below w.heap.size w w' := by
  obtain ⟨x0, r0⟩ := mono_in h0
  obtain ⟨a1, b1, r1⟩ := two_in h1
  obtain ⟨e, H', hc, rfl⟩ := law6 (m := x0) (a := a1) (b := b1)
  obtain ⟨n, hn⟩ := callI_ex hc
  refine top_bool tabOK hn rfl fun i k1 k2 => ?_
  match i, k1 with
  | 0, _ => exact r0
  | 1, _ => exact r1

theorem lifted6 (os : Os) (started : os.Started) (H : Type) (enc : TypeId × Value → H) :
    ReturnsInHanded {} Try.checked os 6 .any (Rows.monomialLimitsSpec.pre6 enc Try.prog Try.f6 Rows.monomialLimitsRow.domain false) (Rows.monomialLimitsSpec.post enc Try.prog Try.f6 false true false false) := by
  refine returnsInHanded_of_change (C := Try.checked) own started (by kernel_rfl) Try.func6
    (ChangeSpec.witness6 (enc := enc) (C := Try.checked) false ⟨#[], #[.agg #[.int .i64 0, .int .i64 0, .int .i64 0, .int .i64 0, .int .i64 0, .int .i64 0, .int .i64 0, .int .i64 0], .agg #[.int .i64 0, .int .i64 0]], []⟩ 8 (by kernel_rfl) (by kernel_rfl) (by kernel_rfl) (by kernel_rfl)) ?_
  intro W base args ds gs before hval0 hW hcnd _
  have hval : ∀ (j : Nat) t v, Try.f6.params[j]? = some t → args[j]? = some v → Value.okWide Try.prog W .any base t v := hval0
  have hW' := hW
  obtain ⟨p, q, hA0, hV, rfl, hfz, hnd⟩ := hW
  have hA : DataW.TrodAll enc Try.prog W 0 (fun _ => true) true Try.f6.params.toList args.toList ds p := hA0
  rw [Try.params6] at hA hval
  obtain ⟨v0, vs0, d0, ds0, p0, q0, hargs, rfl, rfl, h0, r0⟩ := trodAll_cons hA
  obtain ⟨v1, vs1, d1, ds1, p1, q1, rfl, rfl, rfl, h1, r1⟩ := trodAll_cons r0
  obtain ⟨rfl, rfl, rfl⟩ := trodAll_nil r1
  obtain rfl : args = #[v0, v1] := by cases args; simp_all
  obtain ⟨rfl, rfl⟩ := trodVars_none hV
  have k0 := h0
  have lt0 : ∀ x ∈ p0, x.block < W.heap.size := by obtain ⟨m, hm⟩ := k0; exact DataW.trod_lt m _ _ _ hm
  have k1 := h1
  have lt1 : ∀ x ∈ p1, x.block < W.heap.size := by obtain ⟨m, hm⟩ := k1; exact DataW.trod_lt m _ _ _ hm
  refine (walk6 (hval 0 24 v0 rfl rfl) (hval 1 60 v1 rfl rfl)).mono fun e W' ⟨he, bel⟩ => ?_
  subst he
  exact ⟨_, rfl, _, _, _, [], _, [], hW', trodAll_mk1 (shut_bool Try.underlying4 _), (trodAll_cons_mk (Below.trod laidOut (by kernel_rfl) (of_decide_eq_true (by kernel_rfl)) k0 bel lt0) (trodAll_cons_mk (Below.trod laidOut (by kernel_rfl) (of_decide_eq_true (by kernel_rfl)) k1 bel lt1) trodAll_mk0)), rfl, bel.frame _, fun h => by cases h⟩

theorem place6 : Try.prog.inPlace 6 = [] := by kernel_rfl
theorem unf6 : Try.prog.unfollowed 6 = true := by kernel_rfl
theorem rec6 : Try.prog.recurses 6 = true := by kernel_rfl
theorem named6 : Try.prog.varsNamed 6 = [] := by kernel_rfl
theorem found6 : Try.prog.funcNamed Rows.monomialLimitsRow.func = some 6 := by kernel_rfl
theorem closed6 : joinedFacts Try.prog 6 Try.f6 Rows.monomialLimitsSpec Rows.monomialLimitsRow = true := by
  unfold joinedFacts
  rw [laidOut, cMaps, cHeard, cEnter, cLift, cMake, cKeys, place6, unf6, rec6, named6]
  kernel_rfl
theorem wrap6 : Try.f6.isWrapper Try.prog Rows.monomialLimitsRow.wrapper Rows.monomialLimitsRow.mainSum := by
  unfold Func.isWrapper; first | (rw [if_pos (by decide +kernel)]; kernel_rfl) | (rw [if_neg (by decide +kernel)]; exact ⟨rfl, rfl⟩)
theorem inst6 : Try.f6.isInstance Try.prog Rows.monomialLimitsRow.origin Rows.monomialLimitsRow.targs := of_decide_eq_true (by kernel_rfl)
theorem over6 : Rows.monomialLimitsRow.holds Try.pinned (OpenSpec.ofChange Rows.monomialLimitsSpec) :=
  OpenClaim.holds_of_wide 6 Try.f6 rfl rfl rfl rfl rfl rfl rfl ⟨rfl, rfl, rfl, rfl, rfl⟩ rfl rfl rfl rfl rfl found6 Try.func6 closed6 inst6 wrap6
    (fun os started H enc _ => lifted6 os started H enc)
theorem monomialLimits_proved : Rows.MonomialLimitsSaid := over6
#print axioms monomialLimits_proved
end Go.Proofs.Ytlbihaiejbpjoaa
