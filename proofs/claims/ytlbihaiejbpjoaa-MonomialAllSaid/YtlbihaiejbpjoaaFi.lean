/-
  MonomialAll: lists of all monomials of a degree: the law's call returns true whatever comes in, and leaves it as it was; no condition. By an AI agent.
-/
import Derived.Test.YtlbihaiejbpjoaaFs
import Derived.Test.YtlbihaiejbpjoaaPf
set_option linter.unusedSimpArgs false
namespace Go.Proofs.Ytlbihaiejbpjoaa
open Go.ChangeShapes Go.WideShapes Go.ChangeAt Go.RowKit Go.Mach Go.Mach.Ytl
set_option linter.unusedVariables false
set_option maxRecDepth 100000
theorem byte_in {w : World} {base : Nat} {v : Value} (h : Value.okWide Try.prog w .any base 5 v) : ∃ a : Nat, a < 256 ∧ VRel (memOf w) noRho (.int .u8 a) v := by
  have hu : Try.prog.underlying 5 = some (.int .u8) := by kernel_rfl
  have h2 := h
  obtain ⟨n, rfl⟩ := okWide_int hu h
  simp only [Value.okWide, hu, Cell.okWide, Cell.ok] at h2
  have hw : (Lit.int .u8 n).wf = true := by simpa [Lit.wf, IntKind.has, Cell.ok, hu] using h2
  have hb : 0 ≤ n ∧ n ≤ 255 := by
    have := bounds_u8 hw
    omega
  exact ⟨n.toNat, by omega, by rw [show ((n.toNat : Nat) : Int) = n by omega]; exact .int _ _⟩

theorem walk12 {v0 v1 v2 : Value} {w : World} {base : Nat} (h0 : Value.okWide Try.prog w .any base 5 v0) (h1 : Value.okWide Try.prog w .any base 5 v1) (h2 : Value.okWide Try.prog w .any base 48 v2) : Calls Try.prog 12 #[v0, v1, v2] w fun e w' => e = .returned (.bool true) ∧ Below w.heap.size w w' := by
  obtain ⟨x0, g0, r0⟩ := byte_in h0
  obtain ⟨x1, g1, r1⟩ := byte_in h1
  obtain ⟨x2, g2, r2⟩ := raw_in h2
  obtain ⟨e, H', hc, rfl⟩ := law12 (a := x0) (b := x1) (y := x2) g0 g1 g2
  obtain ⟨n, hn⟩ := callI_ex hc
  refine top_bool tabOK hn rfl fun i k1 k2 => ?_
  match i, k1 with
  | 0, _ => exact r0
  | 1, _ => exact r1
  | 2, _ => exact r2

theorem lifted12 (os : Os) (started : os.Started) (H : Type) (enc : TypeId × Value → H) :
    ReturnsInHanded {} Try.checked os 12 .any (Rows.monomialAllSpec.pre6 enc Try.prog Try.f12 Rows.monomialAllRow.domain false) (Rows.monomialAllSpec.post enc Try.prog Try.f12 false true false false) := by
  refine returnsInHanded_of_change (C := Try.checked) own started (by kernel_rfl) Try.func12
    (ChangeSpec.witness6 (enc := enc) (C := Try.checked) false ⟨#[], #[.int .u8 0, .int .u8 0, .agg #[.int .u16 0, .int .u16 0, .int .u16 0, .int .u16 0, .int .u16 0, .int .u16 0, .int .u16 0, .int .u16 0]], []⟩ 8 (by kernel_rfl) (by kernel_rfl) (by kernel_rfl) (by kernel_rfl)) ?_
  intro W base args ds gs before hval0 hW hcnd _
  have hval : ∀ (j : Nat) t v, Try.f12.params[j]? = some t → args[j]? = some v → Value.okWide Try.prog W .any base t v := hval0
  have hW' := hW
  obtain ⟨p, q, hA0, hV, rfl, hfz, hnd⟩ := hW
  have hA : DataW.TrodAll enc Try.prog W 0 (fun _ => true) true Try.f12.params.toList args.toList ds p := hA0
  rw [Try.params12] at hA hval
  obtain ⟨v0, vs0, d0, ds0, p0, q0, hargs, rfl, rfl, h0, r0⟩ := trodAll_cons hA
  obtain ⟨v1, vs1, d1, ds1, p1, q1, rfl, rfl, rfl, h1, r1⟩ := trodAll_cons r0
  obtain ⟨v2, vs2, d2, ds2, p2, q2, rfl, rfl, rfl, h2, r2⟩ := trodAll_cons r1
  obtain ⟨rfl, rfl, rfl⟩ := trodAll_nil r2
  obtain rfl : args = #[v0, v1, v2] := by cases args; simp_all
  obtain ⟨rfl, rfl⟩ := trodVars_none hV
  have k0 := h0
  have lt0 : ∀ x ∈ p0, x.block < W.heap.size := by obtain ⟨m, hm⟩ := k0; exact DataW.trod_lt m _ _ _ hm
  have k1 := h1
  have lt1 : ∀ x ∈ p1, x.block < W.heap.size := by obtain ⟨m, hm⟩ := k1; exact DataW.trod_lt m _ _ _ hm
  have k2 := h2
  have lt2 : ∀ x ∈ p2, x.block < W.heap.size := by obtain ⟨m, hm⟩ := k2; exact DataW.trod_lt m _ _ _ hm
  refine (walk12 (hval 0 5 v0 rfl rfl) (hval 1 5 v1 rfl rfl) (hval 2 48 v2 rfl rfl)).mono fun e W' ⟨he, bel⟩ => ?_
  subst he
  exact ⟨_, rfl, _, _, _, [], _, [], hW', trodAll_mk1 (shut_bool Try.underlying4 _), (trodAll_cons_mk (Below.trod laidOut (by kernel_rfl) (of_decide_eq_true (by kernel_rfl)) k0 bel lt0) (trodAll_cons_mk (Below.trod laidOut (by kernel_rfl) (of_decide_eq_true (by kernel_rfl)) k1 bel lt1) (trodAll_cons_mk (Below.trod laidOut (by kernel_rfl) (of_decide_eq_true (by kernel_rfl)) k2 bel lt2) trodAll_mk0))), rfl, bel.frame _, fun h => by cases h⟩

theorem place12 : Try.prog.inPlace 12 = [] := by kernel_rfl
theorem unf12 : Try.prog.unfollowed 12 = true := by kernel_rfl
theorem rec12 : Try.prog.recurses 12 = true := by kernel_rfl
theorem named12 : Try.prog.varsNamed 12 = [] := by kernel_rfl
theorem found12 : Try.prog.funcNamed Rows.monomialAllRow.func = some 12 := by kernel_rfl
theorem closed12 : joinedFacts Try.prog 12 Try.f12 Rows.monomialAllSpec Rows.monomialAllRow = true := by
  unfold joinedFacts
  rw [laidOut, cMaps, cHeard, cEnter, cLift, cMake, cKeys, place12, unf12, rec12, named12]
  kernel_rfl
theorem wrap12 : Try.f12.isWrapper Try.prog Rows.monomialAllRow.wrapper Rows.monomialAllRow.mainSum := by
  unfold Func.isWrapper; first | (rw [if_pos (by decide +kernel)]; kernel_rfl) | (rw [if_neg (by decide +kernel)]; exact ⟨rfl, rfl⟩)
theorem inst12 : Try.f12.isInstance Try.prog Rows.monomialAllRow.origin Rows.monomialAllRow.targs := of_decide_eq_true (by kernel_rfl)
theorem over12 : Rows.monomialAllRow.holds Try.pinned (OpenSpec.ofChange Rows.monomialAllSpec) :=
  OpenClaim.holds_of_wide 12 Try.f12 rfl rfl rfl rfl rfl rfl rfl ⟨rfl, rfl, rfl, rfl, rfl⟩ rfl rfl rfl rfl rfl found12 Try.func12 closed12 inst12 wrap12
    (fun os started H enc _ => lifted12 os started H enc)
theorem monomialAll_proved : Rows.MonomialAllSaid := over12
#print axioms monomialAll_proved
end Go.Proofs.Ytlbihaiejbpjoaa
