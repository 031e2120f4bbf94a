/-
  Arguments that are arrays of eight numbers. By an AI agent.
-/
import Derived.Test.YtlbihaiejbpjoaaRows
import Derived.WalkKit
import Derived.ProofKit
import Derived.OpenShut
import Derived.ShutString
import Derived.ChangeOld
import Derived.Below
import Derived.Test.YtlbihaiejbpjoaaCd
import Derived.Test.YtlbihaiejbpjoaaHa
set_option linter.unusedSimpArgs false
namespace Go.Proofs.Ytlbihaiejbpjoaa
open Go.ChangeShapes Go.WideShapes Go.ChangeAt Go.RowKit Go.Mach Go.Mach.Ytl
set_option linter.unusedVariables false
set_option maxRecDepth 100000

/-- An array of eight numbers. -/
theorem arr_int {P : Program} {w : World} {base : Nat} {t e : TypeId} {k : IntKind} {v : Value} (ht : P.underlying t = some (.array 8 e)) (he : P.underlying e = some (.int k)) (hts : P.cellTypes P.depth t = some [e, e, e, e, e, e, e, e]) (hsz : P.cellsOf t = 8) (h : Value.okWide P w .any base t v) :
    ∃ x0 x1 x2 x3 x4 x5 x6 x7 : Int, v = .agg #[.int k x0, .int k x1, .int k x2, .int k x3, .int k x4, .int k x5, .int k x6, .int k x7] ∧ ∀ y ∈ [x0, x1, x2, x3, x4, x5, x6, x7], (Lit.int k y).wf = true := by
  simp only [Value.okWide, ht] at h
  obtain ⟨cs, rfl, h2, ts, h3, _, h5⟩ := h
  rw [hts] at h3
  cases h3
  have key : ∀ i, i < 8 → ∃ x, cs[i]? = some (.int k x) ∧ (Lit.int k x).wf = true := by
    intro i hi
    have hlt : i < cs.size := by omega
    obtain ⟨u, hu, hc⟩ := h5 i cs[i] (Array.getElem?_eq_getElem hlt)
    have hue : u = e := by
      match i, hi with
      | 0, _ | 1, _ | 2, _ | 3, _ | 4, _ | 5, _ | 6, _ | 7, _ => simpa using hu.symm
    subst hue
    simp only [Cell.okWide, he] at hc
    rw [Array.getElem?_eq_getElem hlt]
    cases hv : cs[i] <;> rw [hv] at hc <;> simp [Cell.ok, he] at hc
    rename_i k' n
    obtain ⟨rfl, hh⟩ := hc
    exact ⟨n, rfl, by simpa [Lit.wf, IntKind.has] using hh⟩
  obtain ⟨x0, e0, w0⟩ := key 0 (by omega)
  obtain ⟨x1, e1, w1⟩ := key 1 (by omega)
  obtain ⟨x2, e2, w2⟩ := key 2 (by omega)
  obtain ⟨x3, e3, w3⟩ := key 3 (by omega)
  obtain ⟨x4, e4, w4⟩ := key 4 (by omega)
  obtain ⟨x5, e5, w5⟩ := key 5 (by omega)
  obtain ⟨x6, e6, w6⟩ := key 6 (by omega)
  obtain ⟨x7, e7, w7⟩ := key 7 (by omega)
  refine ⟨x0, x1, x2, x3, x4, x5, x6, x7, ?_, by simp [w0, w1, w2, w3, w4, w5, w6, w7]⟩
  congr 1
  apply Array.ext_getElem?
  intro i
  match i with
  | 0 => rw [e0]; rfl
  | 1 => rw [e1]; rfl
  | 2 => rw [e2]; rfl
  | 3 => rw [e3]; rfl
  | 4 => rw [e4]; rfl
  | 5 => rw [e5]; rfl
  | 6 => rw [e6]; rfl
  | 7 => rw [e7]; rfl
  | i + 8 => rw [Array.getElem?_eq_none (by omega)]; rfl

theorem raw_in {w : World} {base : Nat} {v : Value} (h : Value.okWide Try.prog w .any base 48 v) : ∃ x : Mo, x.valid ∧ VRel (memOf w) noRho (raw x) v := by
  obtain ⟨x0, x1, x2, x3, x4, x5, x6, x7, rfl, hw⟩ := arr_int Try.underlying48 (by kernel_rfl : Try.prog.underlying 46 = some (.int .u16)) (by kernel_rfl) (by kernel_rfl) h
  have b : ∀ y ∈ [x0, x1, x2, x3, x4, x5, x6, x7], 0 ≤ y ∧ y ≤ 65535 := fun y hy => bounds_u16 (hw y hy)
  refine ⟨⟨x0, x1, x2, x3, x4, x5, x6, x7⟩, ⟨b _ (by simp), b _ (by simp), b _ (by simp), b _ (by simp), b _ (by simp), b _ (by simp), b _ (by simp), b _ (by simp)⟩, ?_⟩
  refine .agg rfl (fun i hi => ?_) (fun i h1 h2 => ?_)
  · have : i < 8 := hi
    match i, this with
    | 0, _ | 1, _ | 2, _ | 3, _ | 4, _ | 5, _ | 6, _ | 7, _ => rfl
  · have : i < 8 := h1
    match i, this with
    | 0, _ | 1, _ | 2, _ | 3, _ | 4, _ | 5, _ | 6, _ | 7, _ => exact .int _ _

end Go.Proofs.Ytlbihaiejbpjoaa
