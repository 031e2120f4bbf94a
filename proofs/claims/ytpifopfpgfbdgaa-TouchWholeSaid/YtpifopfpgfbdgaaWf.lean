/-
  TouchWhole: whole claims: the law's call returns true whatever comes in, and leaves it as it was; no condition. By an AI agent.
-/
import Derived.Test.YtpifopfpgfbdgaaRows
import Derived.WalkKit
import Derived.ProofKit
import Derived.OpenShut
import Derived.ShutString
import Derived.ChangeOld
import Derived.Below
import Derived.Test.YtpifopfpgfbdgaaHa
import Derived.Test.YtpifopfpgfbdgaaWb
set_option linter.unusedSimpArgs false
namespace Go.Proofs.Ytpifopfpgfbdgaa
open Go.ChangeShapes Go.WideShapes Go.ChangeAt Go.RowKit Go.Mach Go.Mach.Ytl
set_option linter.unusedVariables false
set_option maxRecDepth 100000
theorem int_in {w : World} {base : Nat} {v : Value} (h : Value.okWide Try.prog w .any base 3 v) : ∃ a : Int, (-9223372036854775808 ≤ a ∧ a ≤ 9223372036854775807) ∧ VRel (memOf w) noRho (.int .i64 a) v := by
  have hu : Try.prog.underlying 3 = some (.int .i64) := by kernel_rfl
  have h2 := h
  obtain ⟨n, rfl⟩ := okWide_int hu h
  simp only [Value.okWide, hu, Cell.okWide, Cell.ok] at h2
  have hw : (Lit.int .i64 n).wf = true := by simpa [Lit.wf, IntKind.has, Cell.ok, hu] using h2
  exact ⟨n, bounds_i64 hw, .int _ _⟩

theorem walk3 {v0 : Value} {w : World} {base : Nat} (h0 : Value.okWide Try.prog w .any base 3 v0) : Calls Try.prog 3 #[v0] w fun e w' => e = .returned (.bool true) ∧ Below w.heap.size w w' := by
  obtain ⟨x0, g0, r0⟩ := int_in h0
  refine top_bool tabOK (law3 (k := x0)) rfl fun i k1 k2 => ?_
  match i, k1 with
  | 0, _ => exact r0

theorem lifted3 (os : Os) (started : os.Started) (H : Type) (enc : TypeId × Value → H) :
    ReturnsInHanded {} Try.checked os 3 .any (Rows.touchWholeSpec.pre6 enc Try.prog Try.f3 Rows.touchWholeRow.domain false) (Rows.touchWholeSpec.post enc Try.prog Try.f3 false true false false) := by
  refine returnsInHanded_of_change (C := Try.checked) own started (by kernel_rfl) Try.func3
    (ChangeSpec.witness6 (enc := enc) (C := Try.checked) false ⟨#[], #[.int .i64 0], []⟩ 8 (by kernel_rfl) (by kernel_rfl) (by kernel_rfl) (by kernel_rfl)) ?_
  intro W base args ds gs before hval0 hW hcnd _
  have hval : ∀ (j : Nat) t v, Try.f3.params[j]? = some t → args[j]? = some v → Value.okWide Try.prog W .any base t v := hval0
  have hW' := hW
  obtain ⟨p, q, hA0, hV, rfl, hfz, hnd⟩ := hW
  have hA : DataW.TrodAll enc Try.prog W 0 (fun _ => true) true Try.f3.params.toList args.toList ds p := hA0
  rw [Try.params3] at hA hval
  obtain ⟨v0, vs0, d0, ds0, p0, q0, hargs, rfl, rfl, h0, r0⟩ := trodAll_cons hA
  obtain ⟨rfl, rfl, rfl⟩ := trodAll_nil r0
  obtain rfl : args = #[v0] := by cases args; simp_all
  obtain ⟨rfl, rfl⟩ := trodVars_none hV
  have k0 := h0
  have lt0 : ∀ x ∈ p0, x.block < W.heap.size := by obtain ⟨m, hm⟩ := k0; exact DataW.trod_lt m _ _ _ hm
  refine (walk3 (hval 0 3 v0 rfl rfl)).mono fun e W' ⟨he, bel⟩ => ?_
  subst he
  exact ⟨_, rfl, _, _, _, [], _, [], hW', trodAll_mk1 (shut_bool Try.underlying4 _), (trodAll_cons_mk (Below.trod laidOut (by kernel_rfl) (of_decide_eq_true (by kernel_rfl)) k0 bel lt0) trodAll_mk0), rfl, bel.frame _, fun h => by cases h⟩

theorem place3 : Try.prog.inPlace 3 = [] := by kernel_rfl
theorem unf3 : Try.prog.unfollowed 3 = true := by kernel_rfl
theorem rec3 : Try.prog.recurses 3 = true := by kernel_rfl
theorem named3 : Try.prog.varsNamed 3 = [] := by kernel_rfl
theorem found3 : Try.prog.funcNamed Rows.touchWholeRow.func = some 3 := by kernel_rfl
theorem closed3 : joinedFacts Try.prog 3 Try.f3 Rows.touchWholeSpec Rows.touchWholeRow = true := by
  unfold joinedFacts
  rw [laidOut, cMaps, cHeard, cEnter, cLift, cMake, cKeys, place3, unf3, rec3, named3]
  kernel_rfl
theorem wrap3 : Try.f3.isWrapper Try.prog Rows.touchWholeRow.wrapper Rows.touchWholeRow.mainSum := by
  unfold Func.isWrapper; first | (rw [if_pos (by decide +kernel)]; kernel_rfl) | (rw [if_neg (by decide +kernel)]; exact ⟨rfl, rfl⟩)
theorem inst3 : Try.f3.isInstance Try.prog Rows.touchWholeRow.origin Rows.touchWholeRow.targs := of_decide_eq_true (by kernel_rfl)
theorem over3 : Rows.touchWholeRow.holds Try.pinned (OpenSpec.ofChange Rows.touchWholeSpec) :=
  OpenClaim.holds_of_wide 3 Try.f3 rfl rfl rfl rfl rfl rfl rfl ⟨rfl, rfl, rfl, rfl, rfl⟩ rfl rfl rfl rfl rfl found3 Try.func3 closed3 inst3 wrap3
    (fun os started H enc _ => lifted3 os started H enc)
theorem touchWhole_proved : Rows.TouchWholeSaid := over3
#print axioms touchWhole_proved
end Go.Proofs.Ytpifopfpgfbdgaa
