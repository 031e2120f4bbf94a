/-
  From the machine's answer to the given statement: arguments that are arrays of numbers. By an AI agent.
-/
import Derived.Test.YtlbihaiejbpjoaaRows
import Derived.WalkKit
import Derived.ProofKit
import Derived.OpenShut
import Derived.ShutString
import Derived.ChangeOld
import Derived.Below
import Derived.Test.YtlbihaiejbpjoaaCd
import Derived.Test.YtlbihaiejbpjoaaHa
set_option linter.unusedSimpArgs false
namespace Go.Proofs.Ytlbihaiejbpjoaa
open Go.ChangeShapes Go.WideShapes Go.ChangeAt Go.RowKit Go.Mach Go.Mach.Ytl
set_option linter.unusedVariables false
set_option maxRecDepth 100000


/-- An array of eight numbers. -/
theorem arr_int {P : Program} {w : World} {base : Nat} {t e : TypeId} {k : IntKind} {v : Value} (ht : P.underlying t = some (.array 8 e)) (he : P.underlying e = some (.int k)) (hts : P.cellTypes P.depth t = some [e, e, e, e, e, e, e, e]) (hsz : P.cellsOf t = 8) (h : Value.okWide P w .any base t v) :
    ∃ x0 x1 x2 x3 x4 x5 x6 x7 : Int, v = .agg #[.int k x0, .int k x1, .int k x2, .int k x3, .int k x4, .int k x5, .int k x6, .int k x7] ∧ ∀ y ∈ [x0, x1, x2, x3, x4, x5, x6, x7], (Lit.int k y).wf = true := by
  simp only [Value.okWide, ht] at h
  obtain ⟨cs, rfl, h2, ts, h3, _, h5⟩ := h
  rw [hts] at h3
  cases h3
  have key : ∀ i, i < 8 → ∃ x, cs[i]? = some (.int k x) ∧ (Lit.int k x).wf = true := by
    intro i hi
    have hlt : i < cs.size := by omega
    obtain ⟨u, hu, hc⟩ := h5 i cs[i] (Array.getElem?_eq_getElem hlt)
    have hue : u = e := by
      match i, hi with
      | 0, _ | 1, _ | 2, _ | 3, _ | 4, _ | 5, _ | 6, _ | 7, _ => simpa using hu.symm
    subst hue
    simp only [Cell.okWide, he] at hc
    rw [Array.getElem?_eq_getElem hlt]
    cases hv : cs[i] <;> rw [hv] at hc <;> simp [Cell.ok, he] at hc
    rename_i k' n
    obtain ⟨rfl, hh⟩ := hc
    exact ⟨n, rfl, by simpa [Lit.wf, IntKind.has] using hh⟩
  obtain ⟨x0, e0, w0⟩ := key 0 (by omega)
  obtain ⟨x1, e1, w1⟩ := key 1 (by omega)
  obtain ⟨x2, e2, w2⟩ := key 2 (by omega)
  obtain ⟨x3, e3, w3⟩ := key 3 (by omega)
  obtain ⟨x4, e4, w4⟩ := key 4 (by omega)
  obtain ⟨x5, e5, w5⟩ := key 5 (by omega)
  obtain ⟨x6, e6, w6⟩ := key 6 (by omega)
  obtain ⟨x7, e7, w7⟩ := key 7 (by omega)
  refine ⟨x0, x1, x2, x3, x4, x5, x6, x7, ?_, by simp [w0, w1, w2, w3, w4, w5, w6, w7]⟩
  congr 1
  apply Array.ext_getElem?
  intro i
  match i with
  | 0 => rw [e0]; rfl
  | 1 => rw [e1]; rfl
  | 2 => rw [e2]; rfl
  | 3 => rw [e3]; rfl
  | 4 => rw [e4]; rfl
  | 5 => rw [e5]; rfl
  | 6 => rw [e6]; rfl
  | 7 => rw [e7]; rfl
  | i + 8 => rw [Array.getElem?_eq_none (by omega)]; rfl

theorem raw_in {w : World} {base : Nat} {v : Value} (h : Value.okWide Try.prog w .any base 48 v) : ∃ x : Mo, x.valid ∧ VRel (memOf w) noRho (raw x) v := by
  obtain ⟨x0, x1, x2, x3, x4, x5, x6, x7, rfl, hw⟩ := arr_int Try.underlying48 (by kernel_rfl : Try.prog.underlying 46 = some (.int .u16)) (by kernel_rfl) (by kernel_rfl) h
  have b : ∀ y ∈ [x0, x1, x2, x3, x4, x5, x6, x7], 0 ≤ y ∧ y ≤ 65535 := fun y hy => bounds_u16 (hw y hy)
  refine ⟨⟨x0, x1, x2, x3, x4, x5, x6, x7⟩, ⟨b _ (by simp), b _ (by simp), b _ (by simp), b _ (by simp), b _ (by simp), b _ (by simp), b _ (by simp), b _ (by simp)⟩, ?_⟩
  refine .agg rfl (fun i hi => ?_) (fun i h1 h2 => ?_)
  · have : i < 8 := hi
    match i, this with
    | 0, _ | 1, _ | 2, _ | 3, _ | 4, _ | 5, _ | 6, _ | 7, _ => rfl
  · have : i < 8 := h1
    match i, this with
    | 0, _ | 1, _ | 2, _ | 3, _ | 4, _ | 5, _ | 6, _ | 7, _ => exact .int _ _

theorem walk5 {v0 v1 : Value} {w : World} {base : Nat} (h0 : Value.okWide Try.prog w .any base 48 v0) (h1 : Value.okWide Try.prog w .any base 48 v1) : Calls Try.prog 5 #[v0, v1] w fun e w' => e = .returned (.bool true) ∧ Below w.heap.size w w' := by
  obtain ⟨x, hx, rx⟩ := raw_in h0
  obtain ⟨y, hy, ry⟩ := raw_in h1
  refine top_bool tabOK (law5 hx hy) rfl fun i k1 k2 => ?_
  match i, k1 with
  | 0, _ => exact rx
  | 1, _ => exact ry

set_option maxRecDepth 100000 in
theorem lifted5 (os : Os) (started : os.Started) (H : Type) (enc : TypeId × Value → H) :
    ReturnsInHanded {} Try.checked os 5 .any (Rows.monomialMatchesReferenceSpec.pre6 enc Try.prog Try.f5 Rows.monomialMatchesReferenceRow.domain false) (Rows.monomialMatchesReferenceSpec.post enc Try.prog Try.f5 false true false false) := by
  refine returnsInHanded_of_change (C := Try.checked) own started (by kernel_rfl) Try.func5
    (ChangeSpec.witness6 (enc := enc) (C := Try.checked) false ⟨#[], #[.agg #[.int .u16 0, .int .u16 0, .int .u16 0, .int .u16 0, .int .u16 0, .int .u16 0, .int .u16 0, .int .u16 0], .agg #[.int .u16 0, .int .u16 0, .int .u16 0, .int .u16 0, .int .u16 0, .int .u16 0, .int .u16 0, .int .u16 0]], []⟩ 8 (by kernel_rfl) (by kernel_rfl) (by kernel_rfl) (by kernel_rfl)) ?_
  intro W base args ds gs before hval0 hW hcnd _
  have hval : ∀ (j : Nat) t v, Try.f5.params[j]? = some t → args[j]? = some v → Value.okWide Try.prog W .any base t v := hval0
  have hW' := hW
  obtain ⟨p, q, hA0, hV, rfl, hfz, hnd⟩ := hW
  have hA : DataW.TrodAll enc Try.prog W 0 (fun _ => true) true Try.f5.params.toList args.toList ds p := hA0
  rw [Try.params5] at hA hval
  obtain ⟨v0, vs0, d0, ds0, p0, q0, hargs, rfl, rfl, h0, r0⟩ := trodAll_cons hA
  obtain ⟨v1, vs1, d1, ds1, p1, q1, rfl, rfl, rfl, h1, r1⟩ := trodAll_cons r0
  obtain ⟨rfl, rfl, rfl⟩ := trodAll_nil r1
  obtain rfl : args = #[v0, v1] := by cases args; simp_all
  obtain ⟨rfl, rfl⟩ := trodVars_none hV
  have k0 := h0
  have lt0 : ∀ x ∈ p0, x.block < W.heap.size := by obtain ⟨m, hm⟩ := k0; exact DataW.trod_lt m _ _ _ hm
  have k1 := h1
  have lt1 : ∀ x ∈ p1, x.block < W.heap.size := by obtain ⟨m, hm⟩ := k1; exact DataW.trod_lt m _ _ _ hm
  refine (walk5 (hval 0 48 v0 rfl rfl) (hval 1 48 v1 rfl rfl)).mono fun e W' ⟨he, bel⟩ => ?_
  subst he
  exact ⟨_, rfl, _, _, _, [], _, [], hW', trodAll_mk1 (shut_bool Try.underlying4 _), (trodAll_cons_mk (Below.trod laidOut (by kernel_rfl) (of_decide_eq_true (by kernel_rfl)) k0 bel lt0) (trodAll_cons_mk (Below.trod laidOut (by kernel_rfl) (of_decide_eq_true (by kernel_rfl)) k1 bel lt1) trodAll_mk0)), rfl, bel.frame _, fun h => by cases h⟩

theorem place5 : Try.prog.inPlace 5 = [] := by kernel_rfl
theorem unf5 : Try.prog.unfollowed 5 = true := by kernel_rfl
theorem rec5 : Try.prog.recurses 5 = true := by kernel_rfl
theorem named5 : Try.prog.varsNamed 5 = [] := by kernel_rfl
theorem found5 : Try.prog.funcNamed Rows.monomialMatchesReferenceRow.func = some 5 := by kernel_rfl
theorem closed5 : joinedFacts Try.prog 5 Try.f5 Rows.monomialMatchesReferenceSpec Rows.monomialMatchesReferenceRow = true := by
  unfold joinedFacts
  rw [laidOut, cMaps, cHeard, cEnter, cLift, cMake, cKeys, place5, unf5, rec5, named5]
  kernel_rfl
theorem wrap5 : Try.f5.isWrapper Try.prog Rows.monomialMatchesReferenceRow.wrapper Rows.monomialMatchesReferenceRow.mainSum := by
  unfold Func.isWrapper; first | (rw [if_pos (by decide +kernel)]; kernel_rfl) | (rw [if_neg (by decide +kernel)]; exact ⟨rfl, rfl⟩)
theorem inst5 : Try.f5.isInstance Try.prog Rows.monomialMatchesReferenceRow.origin Rows.monomialMatchesReferenceRow.targs := of_decide_eq_true (by kernel_rfl)
theorem over5 : Rows.monomialMatchesReferenceRow.holds Try.pinned (OpenSpec.ofChange Rows.monomialMatchesReferenceSpec) :=
  OpenClaim.holds_of_wide 5 Try.f5 rfl rfl rfl rfl rfl rfl rfl ⟨rfl, rfl, rfl, rfl, rfl⟩ rfl rfl rfl rfl rfl found5 Try.func5 closed5 inst5 wrap5
    (fun os started H enc _ => lifted5 os started H enc)
theorem monomialMatchesReference_proved : Rows.MonomialMatchesReferenceSaid := over5
#print axioms monomialMatchesReference_proved
end Go.Proofs.Ytlbihaiejbpjoaa
