/-
  MonomialProducts: products: the law's call returns true whatever descriptions come in, and leaves them as they were; no condition. By an AI agent.
-/
import Derived.Test.YtlbihaiejbpjoaaFs
import Derived.Test.YtlbihaiejbpjoaaCh
set_option linter.unusedSimpArgs false
namespace Go.Proofs.Ytlbihaiejbpjoaa
open Go.ChangeShapes Go.WideShapes Go.ChangeAt Go.RowKit Go.Mach Go.Mach.Ytl
set_option linter.unusedVariables false
set_option maxRecDepth 100000

theorem walk7 {v0 v1 v2 : Value} {w : World} {base : Nat} (h0 : Value.okWide Try.prog w .any base 48 v0) (h1 : Value.okWide Try.prog w .any base 48 v1) (h2 : Value.okWide Try.prog w .any base 48 v2) : Calls Try.prog 7 #[v0, v1, v2] w fun e w' => e = .returned (.bool true) ∧ Below w.heap.size w w' := by
  obtain ⟨x0, g0, r0⟩ := raw_in h0
  obtain ⟨x1, g1, r1⟩ := raw_in h1
  obtain ⟨x2, g2, r2⟩ := raw_in h2
  refine top_bool tabOK (law7 g0 g1 g2) rfl fun i k1 k2 => ?_
  match i, k1 with
  | 0, _ => exact r0
  | 1, _ => exact r1
  | 2, _ => exact r2

theorem lifted7 (os : Os) (started : os.Started) (H : Type) (enc : TypeId × Value → H) :
    ReturnsInHanded {} Try.checked os 7 .any (Rows.monomialProductsSpec.pre6 enc Try.prog Try.f7 Rows.monomialProductsRow.domain false) (Rows.monomialProductsSpec.post enc Try.prog Try.f7 false true false false) := by
  refine returnsInHanded_of_change (C := Try.checked) own started (by kernel_rfl) Try.func7
    (ChangeSpec.witness6 (enc := enc) (C := Try.checked) false ⟨#[], #[.agg #[.int .u16 0, .int .u16 0, .int .u16 0, .int .u16 0, .int .u16 0, .int .u16 0, .int .u16 0, .int .u16 0], .agg #[.int .u16 0, .int .u16 0, .int .u16 0, .int .u16 0, .int .u16 0, .int .u16 0, .int .u16 0, .int .u16 0], .agg #[.int .u16 0, .int .u16 0, .int .u16 0, .int .u16 0, .int .u16 0, .int .u16 0, .int .u16 0, .int .u16 0]], []⟩ 8 (by kernel_rfl) (by kernel_rfl) (by kernel_rfl) (by kernel_rfl)) ?_
  intro W base args ds gs before hval0 hW hcnd _
  have hval : ∀ (j : Nat) t v, Try.f7.params[j]? = some t → args[j]? = some v → Value.okWide Try.prog W .any base t v := hval0
  have hW' := hW
  obtain ⟨p, q, hA0, hV, rfl, hfz, hnd⟩ := hW
  have hA : DataW.TrodAll enc Try.prog W 0 (fun _ => true) true Try.f7.params.toList args.toList ds p := hA0
  rw [Try.params7] at hA hval
  obtain ⟨v0, vs0, d0, ds0, p0, q0, hargs, rfl, rfl, h0, r0⟩ := trodAll_cons hA
  obtain ⟨v1, vs1, d1, ds1, p1, q1, rfl, rfl, rfl, h1, r1⟩ := trodAll_cons r0
  obtain ⟨v2, vs2, d2, ds2, p2, q2, rfl, rfl, rfl, h2, r2⟩ := trodAll_cons r1
  obtain ⟨rfl, rfl, rfl⟩ := trodAll_nil r2
  obtain rfl : args = #[v0, v1, v2] := by cases args; simp_all
  obtain ⟨rfl, rfl⟩ := trodVars_none hV
  have k0 := h0
  have lt0 : ∀ x ∈ p0, x.block < W.heap.size := by obtain ⟨m, hm⟩ := k0; exact DataW.trod_lt m _ _ _ hm
  have k1 := h1
  have lt1 : ∀ x ∈ p1, x.block < W.heap.size := by obtain ⟨m, hm⟩ := k1; exact DataW.trod_lt m _ _ _ hm
  have k2 := h2
  have lt2 : ∀ x ∈ p2, x.block < W.heap.size := by obtain ⟨m, hm⟩ := k2; exact DataW.trod_lt m _ _ _ hm
  refine (walk7 (hval 0 48 v0 rfl rfl) (hval 1 48 v1 rfl rfl) (hval 2 48 v2 rfl rfl)).mono fun e W' ⟨he, bel⟩ => ?_
  subst he
  exact ⟨_, rfl, _, _, _, [], _, [], hW', trodAll_mk1 (shut_bool Try.underlying4 _), (trodAll_cons_mk (Below.trod laidOut (by kernel_rfl) (of_decide_eq_true (by kernel_rfl)) k0 bel lt0) (trodAll_cons_mk (Below.trod laidOut (by kernel_rfl) (of_decide_eq_true (by kernel_rfl)) k1 bel lt1) (trodAll_cons_mk (Below.trod laidOut (by kernel_rfl) (of_decide_eq_true (by kernel_rfl)) k2 bel lt2) trodAll_mk0))), rfl, bel.frame _, fun h => by cases h⟩

theorem place7 : Try.prog.inPlace 7 = [] := by kernel_rfl
theorem unf7 : Try.prog.unfollowed 7 = true := by kernel_rfl
theorem rec7 : Try.prog.recurses 7 = true := by kernel_rfl
theorem named7 : Try.prog.varsNamed 7 = [] := by kernel_rfl
theorem found7 : Try.prog.funcNamed Rows.monomialProductsRow.func = some 7 := by kernel_rfl
theorem closed7 : joinedFacts Try.prog 7 Try.f7 Rows.monomialProductsSpec Rows.monomialProductsRow = true := by
  unfold joinedFacts
  rw [laidOut, cMaps, cHeard, cEnter, cLift, cMake, cKeys, place7, unf7, rec7, named7]
  kernel_rfl
theorem wrap7 : Try.f7.isWrapper Try.prog Rows.monomialProductsRow.wrapper Rows.monomialProductsRow.mainSum := by
  unfold Func.isWrapper; first | (rw [if_pos (by decide +kernel)]; kernel_rfl) | (rw [if_neg (by decide +kernel)]; exact ⟨rfl, rfl⟩)
theorem inst7 : Try.f7.isInstance Try.prog Rows.monomialProductsRow.origin Rows.monomialProductsRow.targs := of_decide_eq_true (by kernel_rfl)
theorem over7 : Rows.monomialProductsRow.holds Try.pinned (OpenSpec.ofChange Rows.monomialProductsSpec) :=
  OpenClaim.holds_of_wide 7 Try.f7 rfl rfl rfl rfl rfl rfl rfl ⟨rfl, rfl, rfl, rfl, rfl⟩ rfl rfl rfl rfl rfl found7 Try.func7 closed7 inst7 wrap7
    (fun os started H enc _ => lifted7 os started H enc)
theorem monomialProducts_proved : Rows.MonomialProductsSaid := over7
#print axioms monomialProducts_proved
end Go.Proofs.Ytlbihaiejbpjoaa
