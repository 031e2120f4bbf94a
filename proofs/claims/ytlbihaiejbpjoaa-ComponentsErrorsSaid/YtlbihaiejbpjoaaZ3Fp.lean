/-
  ComponentsErrors: errors: the law's call returns true whatever comes in, and leaves it as it was; no condition. By an AI agent.
-/
import Derived.Test.YtlbihaiejbpjoaaZ3Fs
import Derived.Test.YtlbihaiejbpjoaaZ3Sj
set_option linter.unusedSimpArgs false
namespace Go.Proofs.Ytlbihaiejbpjoaa
open Go.ChangeShapes Go.WideShapes Go.ChangeAt Go.RowKit Go.Mach Go.Mach.Ytl
set_option linter.unusedVariables false
set_option maxRecDepth 100000
theorem byte_in {w : World} {base : Nat} {v : Value} (h : Value.okWide Try.prog w .any base 5 v) : ∃ a : Nat, a < 256 ∧ VRel (memOf w) noRho (.int .u8 a) v := by
  have hu : Try.prog.underlying 5 = some (.int .u8) := by kernel_rfl
  have h2 := h
  obtain ⟨n, rfl⟩ := okWide_int hu h
  simp only [Value.okWide, hu, Cell.okWide, Cell.ok] at h2
  have hw : (Lit.int .u8 n).wf = true := by simpa [Lit.wf, IntKind.has, Cell.ok, hu] using h2
  have hb : 0 ≤ n ∧ n ≤ 255 := by
    have := bounds_u8 hw
    omega
  exact ⟨n.toNat, by omega, by rw [show ((n.toNat : Nat) : Int) = n by omega]; exact .int _ _⟩
theorem int_in {w : World} {base : Nat} {v : Value} (h : Value.okWide Try.prog w .any base 3 v) : ∃ a : Int, (-9223372036854775808 ≤ a ∧ a ≤ 9223372036854775807) ∧ VRel (memOf w) noRho (.int .i64 a) v := by
  have hu : Try.prog.underlying 3 = some (.int .i64) := by kernel_rfl
  have h2 := h
  obtain ⟨n, rfl⟩ := okWide_int hu h
  simp only [Value.okWide, hu, Cell.okWide, Cell.ok] at h2
  have hw : (Lit.int .i64 n).wf = true := by simpa [Lit.wf, IntKind.has, Cell.ok, hu] using h2
  exact ⟨n, bounds_i64 hw, .int _ _⟩
theorem walk3 {v0 v1 v2 : Value} {w : World} {base : Nat} (h0 : Value.okWide Try.prog w .any base 3 v0) (h1 : Value.okWide Try.prog w .any base 5 v1) (h2 : Value.okWide Try.prog w .any base 3 v2) : Calls Try.prog 3 #[v0, v1, v2] w fun e w' => e = .returned (.bool true) ∧ Below w.heap.size w w' := by
  obtain ⟨x0, g0, r0⟩ := int_in h0
  obtain ⟨x1, g1, r1⟩ := byte_in h1
  obtain ⟨x2, g2, r2⟩ := int_in h2
  obtain ⟨e, H', hc, rfl⟩ := law3 (n := x0) (i := x1) (e := x2) g0 g2 g1
  obtain ⟨n, hn⟩ := callI_ex hc
  refine top_bool tabOK hn rfl fun i k1 k2 => ?_
  match i, k1 with
  | 0, _ => exact r0
  | 1, _ => exact r1
  | 2, _ => exact r2
theorem lifted3 (os : Os) (started : os.Started) (H : Type) (enc : TypeId × Value → H) :
    ReturnsInHanded {} Try.checked os 3 .any (Rows.componentsErrorsSpec.pre6 enc Try.prog Try.f3 Rows.componentsErrorsRow.domain false) (Rows.componentsErrorsSpec.post enc Try.prog Try.f3 false true false false) := by
  refine returnsInHanded_of_change (C := Try.checked) own started (by kernel_rfl) Try.func3
    (ChangeSpec.witness6 (enc := enc) (C := Try.checked) false ⟨#[], #[.int .i64 0, .int .u8 0, .int .i64 0], []⟩ 8 (by kernel_rfl) (by kernel_rfl) (by kernel_rfl) (by kernel_rfl)) ?_
  intro W base args ds gs before hval0 hW hcnd _
  have hval : ∀ (j : Nat) t v, Try.f3.params[j]? = some t → args[j]? = some v → Value.okWide Try.prog W .any base t v := hval0
  have hW' := hW
  obtain ⟨p, q, hA0, hV, rfl, hfz, hnd⟩ := hW
  have hA : DataW.TrodAll enc Try.prog W 0 (fun _ => true) true Try.f3.params.toList args.toList ds p := hA0
  rw [Try.params3] at hA hval
  obtain ⟨v0, vs0, d0, ds0, p0, q0, hargs, rfl, rfl, h0, r0⟩ := trodAll_cons hA
  obtain ⟨v1, vs1, d1, ds1, p1, q1, rfl, rfl, rfl, h1, r1⟩ := trodAll_cons r0
  obtain ⟨v2, vs2, d2, ds2, p2, q2, rfl, rfl, rfl, h2, r2⟩ := trodAll_cons r1
  obtain ⟨rfl, rfl, rfl⟩ := trodAll_nil r2
  obtain rfl : args = #[v0, v1, v2] := by cases args; simp_all
  obtain ⟨rfl, rfl⟩ := trodVars_none hV
  have k0 := h0
  have lt0 : ∀ x ∈ p0, x.block < W.heap.size := by obtain ⟨m, hm⟩ := k0; exact DataW.trod_lt m _ _ _ hm
  have k1 := h1
  have lt1 : ∀ x ∈ p1, x.block < W.heap.size := by obtain ⟨m, hm⟩ := k1; exact DataW.trod_lt m _ _ _ hm
  have k2 := h2
  have lt2 : ∀ x ∈ p2, x.block < W.heap.size := by obtain ⟨m, hm⟩ := k2; exact DataW.trod_lt m _ _ _ hm
  refine (walk3 (hval 0 3 v0 rfl rfl) (hval 1 5 v1 rfl rfl) (hval 2 3 v2 rfl rfl)).mono fun e W' ⟨he, bel⟩ => ?_
  subst he
  exact ⟨_, rfl, _, _, _, [], _, [], hW', trodAll_mk1 (shut_bool Try.underlying4 _), (trodAll_cons_mk (Below.trod laidOut (by kernel_rfl) (of_decide_eq_true (by kernel_rfl)) k0 bel lt0) (trodAll_cons_mk (Below.trod laidOut (by kernel_rfl) (of_decide_eq_true (by kernel_rfl)) k1 bel lt1) (trodAll_cons_mk (Below.trod laidOut (by kernel_rfl) (of_decide_eq_true (by kernel_rfl)) k2 bel lt2) trodAll_mk0))), rfl, bel.frame _, fun h => by cases h⟩
theorem place3 : Try.prog.inPlace 3 = [] := by kernel_rfl
theorem unf3 : Try.prog.unfollowed 3 = true := by kernel_rfl
theorem rec3 : Try.prog.recurses 3 = true := by kernel_rfl
theorem named3 : Try.prog.varsNamed 3 = [] := by kernel_rfl
theorem found3 : Try.prog.funcNamed Rows.componentsErrorsRow.func = some 3 := by kernel_rfl
theorem closed3 : joinedFacts Try.prog 3 Try.f3 Rows.componentsErrorsSpec Rows.componentsErrorsRow = true := by
  unfold joinedFacts
  rw [laidOut, cMaps, cHeard, cEnter, cLift, cMake, cKeys, place3, unf3, rec3, named3]
  kernel_rfl
theorem wrap3 : Try.f3.isWrapper Try.prog Rows.componentsErrorsRow.wrapper Rows.componentsErrorsRow.mainSum := by
  unfold Func.isWrapper; first | (rw [if_pos (by decide +kernel)]; kernel_rfl) | (rw [if_neg (by decide +kernel)]; exact ⟨rfl, rfl⟩)
theorem inst3 : Try.f3.isInstance Try.prog Rows.componentsErrorsRow.origin Rows.componentsErrorsRow.targs := of_decide_eq_true (by kernel_rfl)
theorem over3 : Rows.componentsErrorsRow.holds Try.pinned (OpenSpec.ofChange Rows.componentsErrorsSpec) :=
  OpenClaim.holds_of_wide 3 Try.f3 rfl rfl rfl rfl rfl rfl rfl ⟨rfl, rfl, rfl, rfl, rfl⟩ rfl rfl rfl rfl rfl found3 Try.func3 closed3 inst3 wrap3
    (fun os started H enc _ => lifted3 os started H enc)
theorem componentsErrors_proved : Rows.ComponentsErrorsSaid := over3
#print axioms componentsErrors_proved
end Go.Proofs.Ytlbihaiejbpjoaa
