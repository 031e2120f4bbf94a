/-
  Pruned copy of the text Sc Sd. By an AI agent.
-/
import Derived.Test.YtlbihaiejbpjoaaZ4Sb
import Derived.Test.YtlbihaiejbpjoaaZ4Rg
set_option linter.unusedSimpArgs false
set_option linter.unusedVariables false
set_option maxRecDepth 100000
namespace Go.Mach.Ytl
open Go.Mach
section
variable {s : List Jtm} {k : KF} {Q : AV → Heap → Prop}
attribute [local simp] guardI_u
attribute [local simp ↓ high] pureA_lkp heapA_mpu heapA_mkm
end
end Go.Mach.Ytl
set_option linter.unusedSimpArgs false
set_option linter.unusedVariables false
set_option maxRecDepth 100000
namespace Go.Mach.Ytl
open Go.Mach
structure Mg (S : List Mo) (r : List Mo) : Prop where
  min : IsMin r r
  exps : ∀ x ∈ r, ∀ q, x.get q = 0 ∨ ∃ a ∈ S, 0 < a.get q ∧ x.get q = a.get q
  sem : ∀ t, t.nn → ((∃ x ∈ r, Mo.le x t) ↔ ∀ b ∈ S, inQ b t)
theorem Mg.nn {S r : List Mo} (h : Mg S r) : ∀ x ∈ r, x.nn := fun x hx => nn_get.2 fun q _ => by
  rcases h.exps x hx q with e | ⟨a, _, h0, e⟩ <;> omega
theorem get_big {m : Mo} {q : Nat} (h : 8 ≤ q) : m.get q = 0 := by
  match q, h with
  | q + 8, _ => rfl
theorem powL_get {a x : Mo} (hx : x ∈ powL a) (q : Nat) : x.get q = 0 ∨ 0 < a.get q ∧ x.get q = a.get q := by
  simp only [powL, List.mem_map, List.mem_filter, List.mem_range, decide_eq_true_eq] at hx
  obtain ⟨j, ⟨hj, h0⟩, rfl⟩ := hx
  rw [get_set hj]
  split
  · rename_i e; subst e; exact .inr ⟨h0, rfl⟩
  · exact .inl (zero_get q)
theorem powL_nn {a x : Mo} (hx : x ∈ powL a) : x.nn := nn_get.2 fun q _ => by rcases powL_get hx q with e | ⟨h0, e⟩ <;> omega
theorem Mg.next {S r r' : List Mo} {a : Mo} (h : Mg S r) (hm : IsMin (lcms r (powL a)) r') : Mg (S ++ [a]) r' where
  min := hm.self
  exps x hx q := by
    obtain ⟨p, hp, y, hy, rfl⟩ := lcms_mem.1 (hm.sub hx)
    by_cases hq : q < 8
    · rw [map2_get hq]
      unfold imax
      split
      · rcases powL_get hy q with e | ⟨h0, e⟩
        · exact .inl e
        · exact .inr ⟨a, by simp, h0, e⟩
      · rcases h.exps p hp q with e | ⟨b, hb, h0, e⟩
        · exact .inl e
        · exact .inr ⟨b, by simp [hb], h0, e⟩
    · exact .inl (get_big (by omega))
  sem t ht := by
    have hnn : ∀ x ∈ lcms r (powL a), x.nn := fun x hx => by
      obtain ⟨p, hp, q, hq, rfl⟩ := lcms_mem.1 hx
      exact max_nn (h.nn p hp) (powL_nn hq)
    have e := hm.any_le hnn t
    rw [lcms_any, Bool.eq_iff_iff, Bool.and_eq_true, List.any_eq_true, List.any_eq_true, List.any_eq_true] at e
    simp only [decide_eq_true_eq] at e
    rw [e, h.sem t ht, powL_le ht]
    constructor
    · rintro ⟨h1, h2⟩ b hb
      rcases List.mem_append.1 hb with hb | hb
      · exact h1 b hb
      · rw [List.mem_singleton] at hb; subst hb; exact h2
    · intro h1
      exact ⟨fun b hb => h1 b (List.mem_append_left _ hb), h1 a (by simp)⟩
section
variable {s : List Jtm} {k : KF} {Q : AV → Heap → Prop}
attribute [local simp] guardI_u
attribute [local simp ↓ high] pureA_lkp heapA_mpu heapA_mkm
structure Gr2 (H0 H : Heap) (idm : Nat) (ks : List Int) (val : Int → AV) (ow : Nat → Option Int) (P : List Mo) (R : List Int) : Prop where
  idlt : idm < H.next
  idow : ow idm = none
  obj : H.obj idm = .map (entr ks val)
  low : ∀ i, ow i ≠ none → H0.next ≤ i
  off : ∀ s, s ∉ ks → val s = .nils
  acc : ∀ s ∈ R, 0 ≤ s ∧ ∃ gs : List LV, AccP tL (fun i => ow i = some s) H (val s) gs ∧ gs.map LV.l = (P.filter fun a => decide (((supN a : Nat) : Int) = s)).map powL
theorem Gr2.frame {H0 H H' : Heap} {idm : Nat} {ks : List Int} {val : Int → AV} {ow ow' : Nat → Option Int} {P : List Mo} {R R' : List Int} (g : Gr2 H0 H idm ks val ow P R) (hR : ∀ s ∈ R', s ∈ R) (hn : H.next ≤ H'.next) (hi : H'.obj idm = H.obj idm) (ho : ∀ i s, i < H.next → s ∈ R' → ow i = some s → H'.obj i = H.obj i) (hw : ∀ i, i < H.next → ow' i = ow i) (hl : ∀ i, ow' i ≠ none → H0.next ≤ i) : Gr2 H0 H' idm ks val ow' P R' where
  idlt := Nat.lt_of_lt_of_le g.idlt hn
  idow := by rw [hw _ g.idlt]; exact g.idow
  obj := hi.trans g.obj
  low := hl
  off := g.off
  acc s hs := by
    obtain ⟨h0, gs, h1, h2⟩ := g.acc s (hR s hs)
    exact ⟨h0, gs, h1.frame hn (fun i k1 k2 => ho i s k2 hs k1) fun i k1 k2 => by rw [hw i k2]; exact k1, h2⟩
theorem Gr2.look {H0 H : Heap} {idm : Nat} {ks : List Int} {val : Int → AV} {ow : Nat → Option Int} {P : List Mo} {R : List Int} (g : Gr2 H0 H idm ks val ow P R) {s : Int} : lkA false H .nils false (.mp idm) (.int .u8 s) = some (val s) := by
  rw [lkA_some g.obj (find_entr ks)]
  by_cases h : s ∈ ks
  · rw [if_pos h]; rfl
  · rw [if_neg h, g.off s h]; rfl
end
end Go.Mach.Ytl
