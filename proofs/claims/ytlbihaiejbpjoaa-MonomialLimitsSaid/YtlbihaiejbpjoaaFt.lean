/-
  Arguments that are a monomial or a pair of numbers. By an AI agent.
-/
import Derived.Test.YtlbihaiejbpjoaaFs
import Derived.Test.YtlbihaiejbpjoaaPd
set_option linter.unusedSimpArgs false
namespace Go.Proofs.Ytlbihaiejbpjoaa
open Go.ChangeShapes Go.WideShapes Go.ChangeAt Go.RowKit Go.Mach Go.Mach.Ytl
set_option linter.unusedVariables false
set_option maxRecDepth 100000
theorem mono_in {w : World} {base : Nat} {v : Value} (h : Value.okWide Try.prog w .any base 24 v) : ∃ x : Mo, VRel (memOf w) noRho (mono x) v := by
  obtain ⟨x0, x1, x2, x3, x4, x5, x6, x7, rfl, hw⟩ := arr_int (by kernel_rfl : Try.prog.underlying 24 = some (.array 8 3)) (by kernel_rfl : Try.prog.underlying 3 = some (.int .i64)) (by kernel_rfl) (by kernel_rfl) h
  refine ⟨⟨x0, x1, x2, x3, x4, x5, x6, x7⟩, ?_⟩
  refine .agg rfl (fun i hi => ?_) (fun i h1 h2 => ?_)
  · have : i < 8 := hi
    match i, this with
    | 0, _ | 1, _ | 2, _ | 3, _ | 4, _ | 5, _ | 6, _ | 7, _ => rfl
  · have : i < 8 := h1
    match i, this with
    | 0, _ | 1, _ | 2, _ | 3, _ | 4, _ | 5, _ | 6, _ | 7, _ => exact .int _ _
/-- An array of two numbers. -/
theorem arr2_int {P : Program} {w : World} {base : Nat} {t e : TypeId} {k : IntKind} {v : Value} (ht : P.underlying t = some (.array 2 e)) (he : P.underlying e = some (.int k)) (hts : P.cellTypes P.depth t = some [e, e]) (hsz : P.cellsOf t = 2) (h : Value.okWide P w .any base t v) :
    ∃ x0 x1 : Int, v = .agg #[.int k x0, .int k x1] := by
  simp only [Value.okWide, ht] at h
  obtain ⟨cs, rfl, h2, ts, h3, _, h5⟩ := h
  rw [hts] at h3
  cases h3
  have key : ∀ i, i < 2 → ∃ x, cs[i]? = some (.int k x) := by
    intro i hi
    have hlt : i < cs.size := by omega
    obtain ⟨u, hu, hc⟩ := h5 i cs[i] (Array.getElem?_eq_getElem hlt)
    have hue : u = e := by
      match i, hi with
      | 0, _ | 1, _ => simpa using hu.symm
    subst hue
    simp only [Cell.okWide, he] at hc
    rw [Array.getElem?_eq_getElem hlt]
    cases hv : cs[i] <;> rw [hv] at hc <;> simp [Cell.ok, he] at hc
    rename_i k' n
    obtain ⟨rfl, hh⟩ := hc
    exact ⟨n, rfl⟩
  obtain ⟨x0, e0⟩ := key 0 (by omega)
  obtain ⟨x1, e1⟩ := key 1 (by omega)
  refine ⟨x0, x1, ?_⟩
  congr 1
  apply Array.ext_getElem?
  intro i
  match i with
  | 0 => rw [e0]; rfl
  | 1 => rw [e1]; rfl
  | i + 2 => rw [Array.getElem?_eq_none (by omega)]; rfl
theorem two_in {w : World} {base : Nat} {v : Value} (h : Value.okWide Try.prog w .any base 60 v) : ∃ a b : Int, VRel (memOf w) noRho (two a b) v := by
  obtain ⟨x0, x1, rfl⟩ := arr2_int (by kernel_rfl : Try.prog.underlying 60 = some (.array 2 3)) (by kernel_rfl : Try.prog.underlying 3 = some (.int .i64)) (by kernel_rfl) (by kernel_rfl) h
  refine ⟨x0, x1, .agg rfl (fun i hi => ?_) (fun i h1 h2 => ?_)⟩
  · have : i < 2 := hi
    match i, this with
    | 0, _ | 1, _ => rfl
  · have : i < 2 := h1
    match i, this with
    | 0, _ | 1, _ => exact .int _ _
end Go.Proofs.Ytlbihaiejbpjoaa
