/-
  Pruned copy of the text Rg. By an AI agent.
-/
import Derived.Test.YtlbihaiejbpjoaaZ3Rd
set_option linter.unusedSimpArgs false
set_option linter.unusedVariables false
set_option maxRecDepth 100000
namespace Go.Mach.Ytl
open Go.Mach
section
variable {s : List Jtm} {k : KF} {Q : AV → Heap → Prop}
attribute [local simp] guardI_u
end
end Go.Mach.Ytl
set_option linter.unusedSimpArgs false
set_option linter.unusedVariables false
set_option maxRecDepth 100000
namespace Go.Mach.Ytl
open Go.Mach
def boxL : List Mo := (List.range 4).flatMap fun a => (List.range 4).flatMap fun b => (List.range 4).flatMap fun c => (List.range 4).map fun d => ⟨(a : Nat), (b : Nat), (c : Nat), (d : Nat), 0, 0, 0, 0⟩
theorem boxL_len : boxL.length = 256 := by decide +kernel
theorem box_mem {n : Nat} (hn : n ≤ 4) {x : Mo} (h : Box n x) : x ∈ boxL := by
  have h0 := h 0; have h1 := h 1; have h2 := h 2; have h3 := h 3; have h4 := (h 4).2.2 hn; have h5 := (h 5).2.2 (by omega); have h6 := (h 6).2.2 (by omega); have h7 := (h 7).2.2 (by omega)
  obtain ⟨x0, x1, x2, x3, x4, x5, x6, x7⟩ := x
  simp only [Mo.get] at h0 h1 h2 h3 h4 h5 h6 h7
  subst h4 h5 h6 h7
  simp only [boxL, List.mem_flatMap, List.mem_map, List.mem_range]
  refine ⟨x0.toNat, by omega, x1.toNat, by omega, x2.toNat, by omega, x3.toNat, by omega, ?_⟩
  congr 1 <;> omega
theorem box_len {n : Nat} (hn : n ≤ 4) {r : List Mo} (hr : r.Nodup) (h : ∀ x ∈ r, Box n x) : r.length ≤ 256 := by
  rw [← boxL_len]; exact nodup_len hr fun x hx => box_mem hn (h x hx)
theorem exps_box {n : Nat} {L : List Mo} (hL : ∀ m ∈ L, Box n m) {b : Mo} (h : ∀ q, b.get q = 0 ∨ ∃ m ∈ L, 0 < m.get q ∧ b.get q = m.get q) : Box n b := fun q => by
  rcases h q with h | ⟨m, hm, h1, h2⟩
  · rw [h]; omega
  · have := hL m hm q; rw [h2]; exact this
theorem Good.box {n : Nat} {L r : List Mo} (h : Good L r) (hL : ∀ m ∈ L, Box n m) : ∀ b ∈ r, Box n b := fun b hb => exps_box hL (h.exps b hb)
theorem Box.valid {n : Nat} {m : Mo} (h : Box n m) : m.valid := valid_get.2 fun q _ => by have := h q; omega
theorem powL_le {a t : Mo} (ht : t.nn) : (∃ p ∈ powL a, Mo.le p t) ↔ inQ a t := by
  rw [← powL_any ht, List.any_eq_true]
  simp only [dvd_iff]
structure Mt (n : Nat) (S : List Mo) (r : List Mo) : Prop where
  min : IsMin r r
  box : ∀ x ∈ r, Box n x
  sem : ∀ t, t.nn → ((∃ x ∈ r, Mo.le x t) ↔ ∀ b ∈ S, inQ b t)
theorem Mt.start {n : Nat} : Mt n [] [Mo.zero] where
  min := ⟨by simp [Desc], fun m => by simp only [List.mem_singleton, Low]; exact ⟨fun h => ⟨h, fun d hd _ => hd.trans h.symm⟩, fun h => h.1⟩⟩
  box x hx := by rw [List.mem_singleton] at hx; subst hx; intro q; rw [zero_get]; omega
  sem t ht := ⟨fun _ b hb => (nomatch hb), fun _ => ⟨Mo.zero, by simp, le_get.2 fun q hq => by rw [zero_get]; exact nn_get.1 ht q hq⟩⟩
theorem powL_box {n : Nat} {a : Mo} (ha : Box n a) : ∀ x ∈ powL a, Box n x := fun x hx => by
  simp only [powL, List.mem_map, List.mem_filter, List.mem_range, decide_eq_true_eq] at hx
  obtain ⟨q, ⟨hq, h0⟩, rfl⟩ := hx
  intro j
  rw [get_set hq]
  split
  · rename_i e; subst e; exact ha j
  · rw [zero_get]; omega
theorem max_box {n : Nat} {a b : Mo} (ha : Box n a) (hb : Box n b) : Box n (Mo.map2 imax a b) := fun q => by
  by_cases hq : q < 8
  · rw [map2_get hq]; have h1 := ha q; have h2 := hb q; unfold imax; split
    · exact h2
    · exact h1
  · have : (Mo.map2 imax a b).get q = 0 := by
      match q, hq with
      | q + 8, _ => rfl
    rw [this]; omega
theorem Mt.next {n : Nat} {S r r' : List Mo} {a : Mo} (h : Mt n S r) (ha : Box n a) (hm : IsMin (lcms r (powL a)) r') : Mt n (S ++ [a]) r' where
  min := hm.self
  box x hx := by
    obtain ⟨p, hp, q, hq, rfl⟩ := lcms_mem.1 (hm.sub hx)
    exact max_box (h.box p hp) (powL_box ha q hq)
  sem t ht := by
    have hnn : ∀ x ∈ lcms r (powL a), x.nn := fun x hx => by
      obtain ⟨p, hp, q, hq, rfl⟩ := lcms_mem.1 hx
      exact (max_box (h.box p hp) (powL_box ha q hq)).nn
    have e := hm.any_le hnn t
    rw [lcms_any, Bool.eq_iff_iff, Bool.and_eq_true, List.any_eq_true, List.any_eq_true, List.any_eq_true] at e
    simp only [decide_eq_true_eq] at e
    rw [e, h.sem t ht, powL_le ht]
    constructor
    · rintro ⟨h1, h2⟩ b hb
      rcases List.mem_append.1 hb with hb | hb
      · exact h1 b hb
      · rw [List.mem_singleton] at hb; subst hb; exact h2
    · intro h1
      exact ⟨fun b hb => h1 b (List.mem_append_left _ hb), h1 a (by simp)⟩
theorem Mt.len {n : Nat} (hn : n ≤ 4) {S r : List Mo} (h : Mt n S r) : r.length ≤ 256 := box_len hn h.min.desc.nodup h.box
section
variable {s : List Jtm} {k : KF} {Q : AV → Heap → Prop}
attribute [local simp] guardI_u
end
end Go.Mach.Ytl
set_option linter.unusedSimpArgs false
set_option linter.unusedVariables false
set_option maxRecDepth 100000
namespace Go.Mach.Ytl
open Go.Mach
section
variable {s : List Jtm} {k : KF} {Q : AV → Heap → Prop}
attribute [local simp] guardI_u
end
end Go.Mach.Ytl
