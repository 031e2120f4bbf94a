/-
  MonomialOrders: the lexicographic order: the law's call returns true whatever descriptions come in, and leaves them as they were; no condition. By an AI agent.
-/
import Derived.Test.YtlbihaiejbpjoaaFs
import Derived.Test.YtlbihaiejbpjoaaCf
set_option linter.unusedSimpArgs false
namespace Go.Proofs.Ytlbihaiejbpjoaa
open Go.ChangeShapes Go.WideShapes Go.ChangeAt Go.RowKit Go.Mach Go.Mach.Ytl
set_option linter.unusedVariables false
set_option maxRecDepth 100000

theorem walk10 {v0 v1 v2 : Value} {w : World} {base : Nat} (h0 : Value.okWide Try.prog w .any base 48 v0) (h1 : Value.okWide Try.prog w .any base 48 v1) (h2 : Value.okWide Try.prog w .any base 48 v2) : Calls Try.prog 10 #[v0, v1, v2] w fun e w' => e = .returned (.bool true) ∧ Below w.heap.size w w' := by
  obtain ⟨x0, g0, r0⟩ := raw_in h0
  obtain ⟨x1, g1, r1⟩ := raw_in h1
  obtain ⟨x2, g2, r2⟩ := raw_in h2
  refine top_bool tabOK (law10 g0 g1 g2) rfl fun i k1 k2 => ?_
  match i, k1 with
  | 0, _ => exact r0
  | 1, _ => exact r1
  | 2, _ => exact r2

theorem lifted10 (os : Os) (started : os.Started) (H : Type) (enc : TypeId × Value → H) :
    ReturnsInHanded {} Try.checked os 10 .any (Rows.monomialOrdersSpec.pre6 enc Try.prog Try.f10 Rows.monomialOrdersRow.domain false) (Rows.monomialOrdersSpec.post enc Try.prog Try.f10 false true false false) := by
  refine returnsInHanded_of_change (C := Try.checked) own started (by kernel_rfl) Try.func10
    (ChangeSpec.witness6 (enc := enc) (C := Try.checked) false ⟨#[], #[.agg #[.int .u16 0, .int .u16 0, .int .u16 0, .int .u16 0, .int .u16 0, .int .u16 0, .int .u16 0, .int .u16 0], .agg #[.int .u16 0, .int .u16 0, .int .u16 0, .int .u16 0, .int .u16 0, .int .u16 0, .int .u16 0, .int .u16 0], .agg #[.int .u16 0, .int .u16 0, .int .u16 0, .int .u16 0, .int .u16 0, .int .u16 0, .int .u16 0, .int .u16 0]], []⟩ 8 (by kernel_rfl) (by kernel_rfl) (by kernel_rfl) (by kernel_rfl)) ?_
  intro W base args ds gs before hval0 hW hcnd _
  have hval : ∀ (j : Nat) t v, Try.f10.params[j]? = some t → args[j]? = some v → Value.okWide Try.prog W .any base t v := hval0
  have hW' := hW
  obtain ⟨p, q, hA0, hV, rfl, hfz, hnd⟩ := hW
  have hA : DataW.TrodAll enc Try.prog W 0 (fun _ => true) true Try.f10.params.toList args.toList ds p := hA0
  rw [Try.params10] at hA hval
  obtain ⟨v0, vs0, d0, ds0, p0, q0, hargs, rfl, rfl, h0, r0⟩ := trodAll_cons hA
  obtain ⟨v1, vs1, d1, ds1, p1, q1, rfl, rfl, rfl, h1, r1⟩ := trodAll_cons r0
  obtain ⟨v2, vs2, d2, ds2, p2, q2, rfl, rfl, rfl, h2, r2⟩ := trodAll_cons r1
  obtain ⟨rfl, rfl, rfl⟩ := trodAll_nil r2
  obtain rfl : args = #[v0, v1, v2] := by cases args; simp_all
  obtain ⟨rfl, rfl⟩ := trodVars_none hV
  have k0 := h0
  have lt0 : ∀ x ∈ p0, x.block < W.heap.size := by obtain ⟨m, hm⟩ := k0; exact DataW.trod_lt m _ _ _ hm
  have k1 := h1
  have lt1 : ∀ x ∈ p1, x.block < W.heap.size := by obtain ⟨m, hm⟩ := k1; exact DataW.trod_lt m _ _ _ hm
  have k2 := h2
  have lt2 : ∀ x ∈ p2, x.block < W.heap.size := by obtain ⟨m, hm⟩ := k2; exact DataW.trod_lt m _ _ _ hm
  refine (walk10 (hval 0 48 v0 rfl rfl) (hval 1 48 v1 rfl rfl) (hval 2 48 v2 rfl rfl)).mono fun e W' ⟨he, bel⟩ => ?_
  subst he
  exact ⟨_, rfl, _, _, _, [], _, [], hW', trodAll_mk1 (shut_bool Try.underlying4 _), (trodAll_cons_mk (Below.trod laidOut (by kernel_rfl) (of_decide_eq_true (by kernel_rfl)) k0 bel lt0) (trodAll_cons_mk (Below.trod laidOut (by kernel_rfl) (of_decide_eq_true (by kernel_rfl)) k1 bel lt1) (trodAll_cons_mk (Below.trod laidOut (by kernel_rfl) (of_decide_eq_true (by kernel_rfl)) k2 bel lt2) trodAll_mk0))), rfl, bel.frame _, fun h => by cases h⟩

theorem place10 : Try.prog.inPlace 10 = [] := by kernel_rfl
theorem unf10 : Try.prog.unfollowed 10 = true := by kernel_rfl
theorem rec10 : Try.prog.recurses 10 = true := by kernel_rfl
theorem named10 : Try.prog.varsNamed 10 = [] := by kernel_rfl
theorem found10 : Try.prog.funcNamed Rows.monomialOrdersRow.func = some 10 := by kernel_rfl
theorem closed10 : joinedFacts Try.prog 10 Try.f10 Rows.monomialOrdersSpec Rows.monomialOrdersRow = true := by
  unfold joinedFacts
  rw [laidOut, cMaps, cHeard, cEnter, cLift, cMake, cKeys, place10, unf10, rec10, named10]
  kernel_rfl
theorem wrap10 : Try.f10.isWrapper Try.prog Rows.monomialOrdersRow.wrapper Rows.monomialOrdersRow.mainSum := by
  unfold Func.isWrapper; first | (rw [if_pos (by decide +kernel)]; kernel_rfl) | (rw [if_neg (by decide +kernel)]; exact ⟨rfl, rfl⟩)
theorem inst10 : Try.f10.isInstance Try.prog Rows.monomialOrdersRow.origin Rows.monomialOrdersRow.targs := of_decide_eq_true (by kernel_rfl)
theorem over10 : Rows.monomialOrdersRow.holds Try.pinned (OpenSpec.ofChange Rows.monomialOrdersSpec) :=
  OpenClaim.holds_of_wide 10 Try.f10 rfl rfl rfl rfl rfl rfl rfl ⟨rfl, rfl, rfl, rfl, rfl⟩ rfl rfl rfl rfl rfl found10 Try.func10 closed10 inst10 wrap10
    (fun os started H enc _ => lifted10 os started H enc)
theorem monomialOrders_proved : Rows.MonomialOrdersSaid := over10
#print axioms monomialOrders_proved
end Go.Proofs.Ytlbihaiejbpjoaa
