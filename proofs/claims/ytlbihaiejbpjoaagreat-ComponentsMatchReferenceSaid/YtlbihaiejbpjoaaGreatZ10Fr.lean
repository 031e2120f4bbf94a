/-
  Pruned copy of the text Fr. By an AI agent.
-/
import Derived.Test.YtlbihaiejbpjoaaGreatZ10Fs
import Derived.Test.YtlbihaiejbpjoaaGreatZ10Nn
set_option linter.unusedSimpArgs false
namespace Go.Proofs.YtlbihaiejbpjoaaGreat
open Go.ChangeShapes Go.WideShapes Go.ChangeAt Go.RowKit Go.Mach Go.Mach.Ytl
set_option linter.unusedVariables false
set_option maxRecDepth 100000
theorem rel_row {k : IntKind} {w : World} {a : Addr} {len cap : Nat} {zs : List Int} (hl : len ≤ cap) (hc : ∀ i, i < zs.length → w.cell? (a.add i) = some (.int k (zs.getD i 0))) :
    VRel (memOf w) noRho (.vec len false (zs.map fun n => .int k n)) (.slice (some a) len cap) := by
  by_cases h0 : zs.length = 0
  · have : zs = [] := List.length_eq_zero_iff.1 h0
    subst this
    exact .vec0 len cap false a (by simp) hl
  · have h1 := hc 0 (by omega)
    obtain ⟨b, off, spot⟩ := a
    have hspot : spot = none := by simpa [Addr.add] using World.cell?_spot h1
    subst hspot
    have hb : ∃ c T mk, w.heap[b]? = some (.cells c T mk) := by
      simp only [addr_add0, World.cell?] at h1
      cases hh : w.heap[b]? with
      | none => simp [hh] at h1
      | some o =>
        rw [hh] at h1
        cases o <;> simp at h1
        exact ⟨_, _, _, rfl⟩
    obtain ⟨c, T, mk, hb⟩ := hb
    have hget : ∀ i, i < zs.length → c[off + i]? = some (.int k (zs.getD i 0)) := by
      intro i hi
      have := hc i hi
      simpa [addr_add0, World.cell?, hb] using this
    have hsz : off + zs.length ≤ c.size := by
      have := hget (zs.length - 1) (by omega)
      obtain ⟨h2, _⟩ := Array.getElem?_eq_some_iff.1 this
      omega
    refine .vec len cap false off hb (by simpa using hsz) (fun i h1 => ?_) (fun i h1 h2 => ?_) (by simp) hl
    · simp [AV.isCell]
    · rw [List.length_map] at h1
      have := hget i h1
      rw [Array.getElem?_eq_getElem h2] at this
      simp only [Option.some.injEq] at this
      rw [this]
      simp only [List.getElem_map]
      rw [List.getD_eq_getElem?_getD, List.getElem?_eq_getElem h1]
      exact .int k _
section
variable {H : Type} {enc : TypeId × Value → H} {P : Program} {w : World}
theorem rows_in {t e e1 : TypeId} {k : IntKind} {n b0 : Nat} {v : Value} {d : DataW H} {ps : List MemPlace} (ht : P.underlying t = some (.slice e)) (he : P.underlying e = some (.array n e1)) (he1 : P.underlying e1 = some (.int k)) (hc1 : P.cellsOf e1 = 1) (hce : P.cellsOf e = n) (hn : 0 < n)
    (hv : Value.okWide P w .any b0 t v) (h : DataW.Trod enc P w 0 (fun _ => true) true t v d ps) :
    (v = .slice none 0 0) ∨ ∃ (a : Addr) (len cap : Nat) (g : Nat → Int), v = .slice (some a) len cap ∧ len ≤ cap ∧ cap ≤ maxLen ∧ ∀ q, q < len * n → w.cell? (a.add q) = some (.int k (g q)) ∧ (Lit.int k (g q)).wf = true := by
  obtain ⟨a0, len0, cap0, rfl⟩ := okWide_slice ht hv
  obtain ⟨fuel, hf⟩ := h
  rcases DataW.trod_slice ht hf with ⟨hcs, _⟩ | ⟨a, len, cap, elems, rest, m, _, hcs, _, _, hl, hm, hlen, hel, _, _⟩
  · left
    have : (Value.slice a0 len0 cap0).cells.toList = [.slice a0 len0 cap0] := rfl
    rw [this] at hcs
    simpa using hcs
  · right
    have : (Value.slice a0 len0 cap0).cells.toList = [.slice a0 len0 cap0] := rfl
    rw [this] at hcs
    simp only [List.cons.injEq, Value.slice.injEq, and_true] at hcs
    obtain ⟨rfl, rfl, rfl⟩ := hcs
    have hsp : 0 < len0 → a.spot = none := by
      intro h0
      have h1 := hel 0 h0
      rw [List.getElem?_eq_getElem (by omega), Option.bind_eq_some_iff, hce] at h1
      obtain ⟨cs, hcs, _⟩ := h1
      obtain ⟨_, hcl, hat⟩ := World.cells?_some hcs
      have h3 := hat 0 hn
      rw [List.getElem?_eq_getElem (by omega)] at h3
      have h4 : (a.add (0 * n)).add 0 = a := by simp [Addr.add]
      rw [h4] at h3
      exact World.cell?_spot h3
    have each : ∀ q, q < len0 * n → ∃ x, w.cell? (a.add q) = some (.int k x) ∧ (Lit.int k x).wf = true := by
      intro q hq
      have hi : q / n < len0 := Nat.div_lt_of_lt_mul (by rw [Nat.mul_comm]; exact hq)
      have hj : q % n < n := Nat.mod_lt _ hn
      have hspot := hsp (Nat.lt_of_le_of_lt (Nat.zero_le _) hi)
      have h1 := hel (q / n) hi
      rw [List.getElem?_eq_getElem (by omega), Option.bind_eq_some_iff, hce] at h1
      obtain ⟨cs, hcs, htr⟩ := h1
      obtain ⟨_, hcl, hat⟩ := World.cells?_some hcs
      obtain ⟨xs, m', _, _, _, hxl, hx⟩ := DataW.trod_array he htr
      have h2 := hx (q % n) hj
      rw [hc1, Nat.mul_one, List.getElem?_eq_getElem (by omega)] at h2
      obtain ⟨x, hxe, _, hwf⟩ := DataW.trod_int he1 h2
      refine ⟨x, ?_, hwf⟩
      have h3 := hat (q % n) hj
      have h4 : cs[q % n]? = some (.int k x) := by
        rw [List.drop_eq_getElem_cons (by omega)] at hxe
        simp only [List.take_succ_cons, List.take_zero, List.cons.injEq, and_true] at hxe
        rw [List.getElem?_eq_getElem (by omega), hxe]
      rw [h4] at h3
      obtain ⟨b, off, spot⟩ := a
      simp only at hspot
      subst hspot
      rw [addr_add0, addr_add0] at h3
      rw [addr_add0, ← h3]
      have := Nat.div_add_mod q n
      rw [Nat.mul_comm] at this
      rw [Nat.add_assoc, this]
    refine ⟨a, len0, cap0, fun q => if hq : q < len0 * n then (each q hq).choose else 0, rfl, hl, hm, fun q hq => ?_⟩
    simp only [dif_pos hq]
    exact (each q hq).choose_spec
end
end Go.Proofs.YtlbihaiejbpjoaaGreat
