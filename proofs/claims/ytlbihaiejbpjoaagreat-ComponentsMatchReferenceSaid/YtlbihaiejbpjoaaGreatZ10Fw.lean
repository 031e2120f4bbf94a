/-
  Pruned copy of the text Fw. By an AI agent.
-/
import Derived.Test.YtlbihaiejbpjoaaGreatZ10Fr
import Derived.Test.YtlbihaiejbpjoaaGreatZ10Qd
set_option linter.unusedSimpArgs false
namespace Go.Proofs.YtlbihaiejbpjoaaGreat
open Go.ChangeShapes Go.WideShapes Go.ChangeAt Go.RowKit Go.Mach Go.Mach.Ytl
set_option linter.unusedVariables false
set_option maxRecDepth 100000
def quadsOf (g : Nat → Int) (len : Nat) : List Mo := (List.range len).map fun i => ⟨g (i * 4), g (i * 4 + 1), g (i * 4 + 2), g (i * 4 + 3), 0, 0, 0, 0⟩
theorem quads_row (g : Nat → Int) (len : Nat) : tQ.row (quadsOf g len) = ((List.range (len * 4)).map g).map fun n => .int .u8 n := by
  induction len with
  | zero => rfl
  | succ len ih =>
    have h8 : List.range ((len + 1) * 4) = List.range (len * 4) ++ [len * 4, len * 4 + 1, len * 4 + 2, len * 4 + 3] := by
      rw [show (len + 1) * 4 = len * 4 + 1 + 1 + 1 + 1 by omega]
      simp [List.range_succ]
    have hr : quadsOf g (len + 1) = quadsOf g len ++ [⟨g (len * 4), g (len * 4 + 1), g (len * 4 + 2), g (len * 4 + 3), 0, 0, 0, 0⟩] := by
      simp [quadsOf, List.range_succ]
    rw [hr, tQ.row_append, ih, h8, List.map_append, List.map_append]
    rfl
theorem quads_in {H : Type} {enc : TypeId × Value → H} {w : World} {b0 : Nat} {v : Value} {d : DataW H} {ps : List MemPlace} (hv : Value.okWide Tryz.prog w .any b0 23 v) (h : DataW.Trod enc Tryz.prog w 0 (fun _ => true) true 23 v d ps) :
    ∃ (x : AV) (l : List Mo), ML tQ x l ∧ (∀ y ∈ l, Bytes y) ∧ l.length < 2 ^ 63 ∧ VRel (memOf w) noRho x v := by
  rcases rows_in (P := Tryz.prog) (t := 23) (e := 49) (e1 := 5) (k := .u8) (n := 4) (by kernel_rfl) (by kernel_rfl) (by kernel_rfl) (by kernel_rfl) (by kernel_rfl) (by decide) hv h with rfl | ⟨a, len, cap, g, rfl, hl, hm, hg⟩
  · refine ⟨AV.nils, [], .inl ⟨rfl, rfl⟩, fun y hy => (by cases hy), by decide, VRel.nils⟩
  · have hlen : (quadsOf g len).length = len := by simp [quadsOf]
    refine ⟨.vec len false (tQ.row (quadsOf g len)), quadsOf g len, .inr ⟨false, by rw [hlen]⟩, fun y hy => ?_, ?_, ?_⟩
    · simp only [quadsOf, List.mem_map, List.mem_range] at hy
      obtain ⟨i, hi, rfl⟩ := hy
      have b : ∀ q, q < len * 4 → 0 ≤ g q ∧ g q ≤ 255 := fun q hq => bounds_u8 (hg q hq).2
      intro q hq
      match q, hq with
      | 0, _ => exact b _ (by omega)
      | 1, _ => exact b _ (by omega)
      | 2, _ => exact b _ (by omega)
      | 3, _ => exact b _ (by omega)
    · rw [hlen]; unfold maxLen at hm; omega
    · rw [quads_row]
      refine rel_row hl fun i hi => ?_
      simp only [List.length_map, List.length_range] at hi
      rw [(hg i hi).1]
      simp [List.getD, hi]
theorem input_in {H : Type} {enc : TypeId × Value → H} {w : World} {b0 : Nat} {v : Value} {d : DataW H} {ps : List MemPlace} (hv : Value.okWide Tryz.prog w .any b0 25 v) (h : DataW.Trod enc Tryz.prog w 0 (fun _ => true) true 25 v d ps) :
    ∃ (x : AV) (n : Nat) (l : List Mo), ML tQ x l ∧ n < 256 ∧ (∀ y ∈ l, Bytes y) ∧ l.length < 2 ^ 63 ∧ VRel (memOf w) noRho (inp x n) v := by
  have h39 := Tryz.underlying25
  have h37 := Tryz.underlying23
  have h5 := Tryz.underlying5
  simp only [Value.okWide, h39] at hv
  obtain ⟨cs, rfl, h2, ts, h3, _, h4⟩ := hv
  have hts : Tryz.prog.cellTypes Tryz.prog.depth 25 = some [23, 5] := by kernel_rfl
  rw [hts] at h3
  cases h3
  have hsz : cs.size = 2 := by rw [h2]; kernel_rfl
  obtain ⟨c0', c1', rfl⟩ : ∃ p q, cs = #[p, q] := by
    obtain ⟨L⟩ := cs
    match L, hsz with
    | [p, q], _ => exact ⟨p, q, rfl⟩
  obtain ⟨fuel, hf⟩ := h
  obtain ⟨xs, m, rfl, hx, hcl, hxl, hxs⟩ := DataW.trod_struct h39 hf
  have e0 := hxs 0 _ rfl
  obtain ⟨u0, hu0, c0⟩ := h4 0 c0' rfl
  obtain ⟨u1, hu1, c1⟩ := h4 1 c1' rfl
  have : u0 = 23 := by simpa using hu0.symm
  subst this
  have : u1 = 5 := by simpa using hu1.symm
  subst this
  have v0 : Value.okWide Tryz.prog w .any b0 23 c0' := by simp only [Value.okWide, h37]; exact c0
  have v1 : Value.okWide Tryz.prog w .any b0 5 c1' := by simp only [Value.okWide, h5]; exact c1
  obtain ⟨a, len, cap, hcs⟩ := okWide_slice h37 v0
  have hce : Tryz.prog.cellsOf 23 = 1 := by kernel_rfl
  obtain ⟨y0, y1, rfl⟩ : ∃ p q, xs = [p, q] := by
    match xs, hxl with
    | [p, q], _ => exact ⟨p, q, rfl⟩
  have e1 : DataW.trod enc Tryz.prog w 0 (fun _ => true) true m 23 [c0'] = some y0 := by
    have e2 : DataW.trod enc Tryz.prog w 0 (fun _ => true) true m 23 (List.take (Tryz.prog.cellsOf 23) [c0', c1']) = some y0 := e0
    rw [hce] at e2
    exact e2
  have t0 : DataW.Trod enc Tryz.prog w 0 (fun _ => true) true 23 c0' y0.1 y0.2 := ⟨m, by
    rw [hcs] at e1 ⊢
    exact e1⟩
  obtain ⟨x, l, hl, hb, hll, hr⟩ := quads_in v0 t0
  obtain ⟨n, hn⟩ := okWide_int h5 v1
  rw [hn] at v1
  simp only [Value.okWide, h5, Cell.okWide, Cell.ok] at v1
  have hw : (Lit.int .u8 n).wf = true := by simpa [Lit.wf, IntKind.has, Cell.ok, h5] using v1
  have hnb := bounds_u8 hw
  refine ⟨x, n.toNat, l, hl, by omega, hb, hll, ?_⟩
  refine .agg rfl (fun i hi => ?_) (fun i h1 h2 => ?_)
  · match i, hi with
    | 0, _ => rcases hl with ⟨rfl, rfl⟩ | ⟨ex, rfl⟩ <;> rfl
    | 1, _ => rfl
  · match i, h1 with
    | 0, _ => exact hr
    | 1, _ =>
      show VRel _ _ (.int .u8 (n.toNat : Nat)) c1'
      rw [hn, show ((n.toNat : Nat) : Int) = n by omega]
      exact .int _ _
end Go.Proofs.YtlbihaiejbpjoaaGreat
