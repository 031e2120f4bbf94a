/-
  MonomialMinimal: minimal elements of lists: the law's call returns true whatever comes in, and leaves it as it was; no condition. By an AI agent.
-/
import Derived.Test.YtlbihaiejbpjoaaFr
import Derived.Test.YtlbihaiejbpjoaaOb
set_option linter.unusedSimpArgs false
namespace Go.Proofs.Ytlbihaiejbpjoaa
open Go.ChangeShapes Go.WideShapes Go.ChangeAt Go.RowKit Go.Mach Go.Mach.Ytl
set_option linter.unusedVariables false
set_option maxRecDepth 100000

theorem walk11 {H : Type} {enc : TypeId × Value → H} {d0 : DataW H} {p0 : List MemPlace} {v0 v1 : Value} {w : World} {base : Nat} (h0 : Value.okWide Try.prog w .any base 65 v0) (k0 : DataW.Trod enc Try.prog w 0 (fun _ => true) true 65 v0 d0 p0) (h1 : Value.okWide Try.prog w .any base 48 v1) : Calls Try.prog 11 #[v0, v1] w fun e w' => e = .returned (.bool true) ∧ Below w.heap.size w w' := by
  obtain ⟨x0, l0, m0, g0, b0, r0⟩ := raws_in h0 k0
  obtain ⟨x1, g1, r1⟩ := raw_in h1
  obtain ⟨e, H', hc, rfl⟩ := law11 m0 g0 g1 b0
  obtain ⟨n, hn⟩ := callI_ex hc
  refine top_bool tabOK hn rfl fun i k1 k2 => ?_
  match i, k1 with
  | 0, _ => exact r0
  | 1, _ => exact r1

theorem lifted11 (os : Os) (started : os.Started) (H : Type) (enc : TypeId × Value → H) :
    ReturnsInHanded {} Try.checked os 11 .any (Rows.monomialMinimalSpec.pre6 enc Try.prog Try.f11 Rows.monomialMinimalRow.domain false) (Rows.monomialMinimalSpec.post enc Try.prog Try.f11 false true false false) := by
  refine returnsInHanded_of_change (C := Try.checked) own started (by kernel_rfl) Try.func11
    (ChangeSpec.witness6 (enc := enc) (C := Try.checked) false ⟨#[], #[.slice none 0 0, .agg #[.int .u16 0, .int .u16 0, .int .u16 0, .int .u16 0, .int .u16 0, .int .u16 0, .int .u16 0, .int .u16 0]], []⟩ 8 (by kernel_rfl) (by kernel_rfl) (by kernel_rfl) (by kernel_rfl)) ?_
  intro W base args ds gs before hval0 hW hcnd _
  have hval : ∀ (j : Nat) t v, Try.f11.params[j]? = some t → args[j]? = some v → Value.okWide Try.prog W .any base t v := hval0
  have hW' := hW
  obtain ⟨p, q, hA0, hV, rfl, hfz, hnd⟩ := hW
  have hA : DataW.TrodAll enc Try.prog W 0 (fun _ => true) true Try.f11.params.toList args.toList ds p := hA0
  rw [Try.params11] at hA hval
  obtain ⟨v0, vs0, d0, ds0, p0, q0, hargs, rfl, rfl, h0, r0⟩ := trodAll_cons hA
  obtain ⟨v1, vs1, d1, ds1, p1, q1, rfl, rfl, rfl, h1, r1⟩ := trodAll_cons r0
  obtain ⟨rfl, rfl, rfl⟩ := trodAll_nil r1
  obtain rfl : args = #[v0, v1] := by cases args; simp_all
  obtain ⟨rfl, rfl⟩ := trodVars_none hV
  have k0 := h0
  have lt0 : ∀ x ∈ p0, x.block < W.heap.size := by obtain ⟨m, hm⟩ := k0; exact DataW.trod_lt m _ _ _ hm
  have k1 := h1
  have lt1 : ∀ x ∈ p1, x.block < W.heap.size := by obtain ⟨m, hm⟩ := k1; exact DataW.trod_lt m _ _ _ hm
  refine (walk11 (hval 0 65 v0 rfl rfl) h0 (hval 1 48 v1 rfl rfl)).mono fun e W' ⟨he, bel⟩ => ?_
  subst he
  exact ⟨_, rfl, _, _, _, [], _, [], hW', trodAll_mk1 (shut_bool Try.underlying4 _), (trodAll_cons_mk (Below.trod laidOut (by kernel_rfl) (of_decide_eq_true (by kernel_rfl)) k0 bel lt0) (trodAll_cons_mk (Below.trod laidOut (by kernel_rfl) (of_decide_eq_true (by kernel_rfl)) k1 bel lt1) trodAll_mk0)), rfl, bel.frame _, fun h => by cases h⟩

theorem place11 : Try.prog.inPlace 11 = [] := by kernel_rfl
theorem unf11 : Try.prog.unfollowed 11 = true := by kernel_rfl
theorem rec11 : Try.prog.recurses 11 = true := by kernel_rfl
theorem named11 : Try.prog.varsNamed 11 = [] := by kernel_rfl
theorem found11 : Try.prog.funcNamed Rows.monomialMinimalRow.func = some 11 := by kernel_rfl
theorem closed11 : joinedFacts Try.prog 11 Try.f11 Rows.monomialMinimalSpec Rows.monomialMinimalRow = true := by
  unfold joinedFacts
  rw [laidOut, cMaps, cHeard, cEnter, cLift, cMake, cKeys, place11, unf11, rec11, named11]
  kernel_rfl
theorem wrap11 : Try.f11.isWrapper Try.prog Rows.monomialMinimalRow.wrapper Rows.monomialMinimalRow.mainSum := by
  unfold Func.isWrapper; first | (rw [if_pos (by decide +kernel)]; kernel_rfl) | (rw [if_neg (by decide +kernel)]; exact ⟨rfl, rfl⟩)
theorem inst11 : Try.f11.isInstance Try.prog Rows.monomialMinimalRow.origin Rows.monomialMinimalRow.targs := of_decide_eq_true (by kernel_rfl)
theorem over11 : Rows.monomialMinimalRow.holds Try.pinned (OpenSpec.ofChange Rows.monomialMinimalSpec) :=
  OpenClaim.holds_of_wide 11 Try.f11 rfl rfl rfl rfl rfl rfl rfl ⟨rfl, rfl, rfl, rfl, rfl⟩ rfl rfl rfl rfl rfl found11 Try.func11 closed11 inst11 wrap11
    (fun os started H enc _ => lifted11 os started H enc)
theorem monomialMinimal_proved : Rows.MonomialMinimalSaid := over11
#print axioms monomialMinimal_proved
end Go.Proofs.Ytlbihaiejbpjoaa
