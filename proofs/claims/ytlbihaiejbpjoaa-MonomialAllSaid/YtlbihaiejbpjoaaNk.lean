/-
  Lists that are read; searching them. By an AI agent.
-/
import Derived.Test.YtlbihaiejbpjoaaNj
set_option linter.unusedSimpArgs false
set_option linter.unusedVariables false
set_option maxRecDepth 100000
namespace Go.Mach
def lenA (H : Heap) : Nat → AV → Option AV
  | 1, .nils => some (.int .i64 0)
  | 1, .sl _ _ n _ _ _ => some (.int .i64 n)
  | 1, .vec n _ _ => some (.int .i64 n)
  | 0, .str s => some (.int .i64 s.size)
  | 2, .nilm => some (.int .i64 0)
  | 2, .mp id => match H.obj id with
    | .map es => some (.int .i64 es.length)
    | _ => none
  | _, _ => none
theorem pureA_len {f : AOpd → AV} {H : Heap} {kd : Nat} {x : AOpd} : pureA f H (.len kd x) = lenA H kd (f x) := rfl
theorem lenA_nils {H : Heap} : lenA H 1 .nils = some (.int .i64 0) := rfl
theorem lenA_sl {H : Heap} {a b n l e : Nat} {ex : Bool} : lenA H 1 (.sl a b n l ex e) = some (.int .i64 n) := rfl
theorem lenA_vec {H : Heap} {n : Nat} {ex : Bool} {cs : List AV} : lenA H 1 (.vec n ex cs) = some (.int .i64 n) := rfl
theorem lenA_str {H : Heap} {s : ByteArray} : lenA H 0 (.str s) = some (.int .i64 s.size) := rfl
attribute [simp ↓ high] pureA_len
attribute [simp] lenA_nils lenA_sl lenA_vec lenA_str

/-- A slice of which a list is read. -/
def Rd {α : Type} (t : Ty α) (H : Heap) (v : AV) (l : List α) : Prop :=
  lenA H 1 v = some (.int .i64 l.length) ∧ ∀ i (h : i < l.length), ∃ p, iaddrA none t.e v (.int .i64 i) = some p ∧ loadA H t.agg t.e p = some (t.val l[i])
/-- A slice that bears its list itself. -/
def ML {α : Type} (t : Ty α) (v : AV) (l : List α) : Prop := (v = .nils ∧ l = []) ∨ ∃ ex, v = .vec l.length ex (t.row l)

theorem row_ne {α : Type} (t : Ty α) {l : List α} {i : Nat} (h : i < l.length) : t.row l ≠ [] := by
  intro e
  have := t.row_length l
  rw [e] at this
  have := t.pos
  have h3 : 0 < l.length * t.e := Nat.mul_pos (by omega) t.pos
  simp at *
  omega
theorem ML.rd {α : Type} {t : Ty α} {v : AV} {l : List α} (h : ML t v l) (H : Heap) : Rd t H v l := by
  rcases h with ⟨rfl, rfl⟩ | ⟨ex, rfl⟩
  · exact ⟨rfl, fun i h => nomatch h⟩
  · refine ⟨rfl, fun i h => ⟨.pv (t.row l) (i * t.e), ?_, ?_⟩⟩
    · simp only [iaddrA]
      rw [if_pos ⟨by omega, by omega, row_ne t h⟩]
      simp
    · rw [loadA_pv, t.row_part l i h]
/-- A live row. -/
theorem Rd.live {α : Type} {t : Ty α} {H : Heap} {id lo : Nat} {ex : Bool} {l m : List α} {n : Nat} {rel : Option Nat} (ho : H.obj id = .cells (t.row m) rel) (hn : n = l.length) (hm : l = m.take n) (hle : n ≤ m.length) : Rd t H (.sl id 0 n lo ex t.e) l := by
  subst hn
  refine ⟨rfl, fun i h => ⟨.ptr id (i * t.e), ?_, ?_⟩⟩
  · rw [iaddr_sl (by omega)]; simp
  · rw [loadA_ptr, read_eq, ho, rdO_cells, partO_some, t.row_part m i (by omega)]
    congr 2
    have : l[i] = (m.take l.length)[i]'(by rw [← hm]; exact h) := by congr 1
    rw [this, List.getElem_take]

theorem ML.nonew {α : Type} {t : Ty α} {v : AV} {l : List α} (h : ML t v l) (b n : Nat) : v.noNew b (n + 1) = true := by
  rcases h with ⟨rfl, rfl⟩ | ⟨ex, rfl⟩ <;> rfl
theorem ML.frz {α : Type} {t : Ty α} {v : AV} {l : List α} (h : ML t v l) (b n : Nat) (H : Heap) : frz b (n + 1) H v = some (v, H) := by
  rcases h with ⟨rfl, rfl⟩ | ⟨ex, rfl⟩ <;> rfl
theorem ML.flat {α : Type} {t : Ty α} {v : AV} {l : List α} (h : ML t v l) : v.flat = some [v] := by
  rcases h with ⟨rfl, rfl⟩ | ⟨ex, rfl⟩ <;> rfl
theorem ML.isNil {α : Type} {t : Ty α} {v : AV} {l : List α} (h : ML t v l) : ∃ b, eqNil 1 v = some b := by
  rcases h with ⟨rfl, rfl⟩ | ⟨ex, rfl⟩ <;> exact ⟨_, rfl⟩

namespace Ytl
section
variable {g b : Nat} {o : AObj} {s : List Jtm} {k : KF} {Q : AV → Heap → Prop}
/-- A function value with one captured box that tells whether an element is of a kind. -/
def PredM (g b : Nat) (o : AObj) (p : Mo → Bool) : Prop := ∀ a H, b < H.next → H.obj b = o → callI tab g [mono a, .ptr b 0] H = some (.bool (p a), H)
def PredB (g b : Nat) (o : AObj) (p : Int → Bool) : Prop := ∀ a H, b < H.next → H.obj b = o → callI tab g [.int .u8 a, .ptr b 0] H = some (.bool (p a), H)

/-- Where the first element of a kind stands, from i on; else -1. -/
def findI {α : Type} (p : α → Bool) : Nat → List α → Int
  | _, [] => -1
  | i, a :: l => if p a then (i : Int) else findI p (i + 1) l
theorem findI_any {α : Type} (p : α → Bool) (l : List α) : ∀ i, decide (0 ≤ findI p i l) = l.any p := by
  induction l with
  | nil => intro i; rfl
  | cons a l ih =>
    intro i
    by_cases h : p a = true
    · simp [findI, h]
    · simp only [findI, List.any_cons, if_neg h]
      rw [ih]
      simp [h]

theorem l97_2 {p : Mo → Bool} (hp : PredM g b o p) {v : AV} {l : List Mo} {H : Heap} (hv : Rd tM H v l) (hb : b < H.next) (ho : H.obj b = o) (hl : l.length < 2 ^ 40) {H0 : Heap} : ∀ (m i : Nat) (σ : Sig), l.length - i = m → i ≤ l.length →
    σ 0 = v → σ 1 = .fn g [] [.ptr b 0] → σ 7 = .int .i64 l.length → σ 8 = .int .i64 i →
    Res (some (wrapA H0 (.int .i64 (findI p i (l.drop i))) H)) Q →
    Res (li (callI tab) L97_2 [.inBlock 0, .code S97_3] (fink [.tmp 4] false H0) σ H) Q := by
  intro m
  induction m with
  | zero =>
    intro i σ hm hi h0 h1 h7 h8 hQ
    rw [List.drop_of_length_le (by omega)] at hQ
    obtain ⟨il, hil⟩ : ∃ x, x = Jtm.inLoop L97_2 := ⟨_, rfl⟩; rw [li_eq' il hil]
    simp -implicitDefEqProofs (disch := first | omega | with_unfolding_all exact eqR (Eq.refl _)) [nums, -getElem!_pos, -Int.natCast_add, -Int.natCast_mul, -Int.natCast_ediv, L97_2, S97_0, S97_1, h0, h1, h7, h8]
    subst hil
    try simp -implicitDefEqProofs (disch := first | omega | with_unfolding_all exact eqR (Eq.refl _)) [nums, -getElem!_pos, -Int.natCast_add, -Int.natCast_mul, -Int.natCast_ediv, S97_3]
    exact hQ
  | succ m ih =>
    intro i σ hm hi h0 h1 h7 h8 hQ
    have hlt : i < l.length := by omega
    obtain ⟨q, e1, e2⟩ := hv.2 i hlt
    rw [show tM.e = 8 from rfl] at e1 e2
    rw [show tM.agg = true from rfl, show tM.val l[i] = mono l[i] from rfl] at e2
    rw [List.drop_eq_getElem_cons hlt, findI] at hQ
    have hc := hp l[i] H hb ho
    cases hpi : p l[i] with
    | true =>
      rw [hpi, if_pos rfl] at hQ
      rw [hpi] at hc
      obtain ⟨il, hil⟩ : ∃ x, x = Jtm.inLoop L97_2 := ⟨_, rfl⟩; rw [li_eq' il hil]
      simp -implicitDefEqProofs (disch := first | omega | with_unfolding_all exact eqR (Eq.refl _)) [nums, -getElem!_pos, -Int.natCast_add, -Int.natCast_mul, -Int.natCast_ediv, L97_2, S97_0, S97_1, h0, h1, h7, h8, e1, e2, hc]
      subst hil
      try simp -implicitDefEqProofs (disch := first | omega | with_unfolding_all exact eqR (Eq.refl _)) [nums, -getElem!_pos, -Int.natCast_add, -Int.natCast_mul, -Int.natCast_ediv]
      exact hQ
    | false =>
      rw [hpi, if_neg (by simp)] at hQ
      rw [hpi] at hc
      obtain ⟨il, hil⟩ : ∃ x, x = Jtm.inLoop L97_2 := ⟨_, rfl⟩; rw [li_eq' il hil]
      simp -implicitDefEqProofs (disch := first | omega | with_unfolding_all exact eqR (Eq.refl _)) [nums, -getElem!_pos, -Int.natCast_add, -Int.natCast_mul, -Int.natCast_ediv, L97_2, S97_0, S97_1, h0, h1, h7, h8, e1, e2, hc]
      subst hil
      try simp -implicitDefEqProofs (disch := first | omega | with_unfolding_all exact eqR (Eq.refl _)) [nums, -getElem!_pos, -Int.natCast_add, -Int.natCast_mul, -Int.natCast_ediv]
      refine ih (i + 1) _ (by omega) (by omega) ?_ ?_ ?_ ?_ hQ
      all_goals simp [h0, h1, h7, h8]
theorem call_97 {p : Mo → Bool} (hp : PredM g b o p) {v : AV} {l : List Mo} {H : Heap} (hv : Rd tM H v l) (hb : b < H.next) (ho : H.obj b = o) (hl : l.length < 2 ^ 40) : callI tab 97 [v, .fn g [] [.ptr b 0]] H = some (.int .i64 (findI p 0 l), H) := by
  have : Res (callI tab 97 [v, .fn g [] [.ptr b 0]] H) fun e H' => e = .int .i64 (findI p 0 l) ∧ H' = H := by
    refine .hide fun Q hQ => .enter tab_97 (by simp [AF97]) (.inl rfl) ?_
    have hln := hv.1
    have hln' : lenA H.begin 1 v = some (.int .i64 l.length) := hln
    simp -implicitDefEqProofs (disch := first | omega | with_unfolding_all exact eqR (Eq.refl _)) [nums, -getElem!_pos, -Int.natCast_add, -Int.natCast_mul, -Int.natCast_ediv, AF97, hln']
    refine l97_2 hp (H := H.begin) (v := v) hv hb ho hl _ 0 _ rfl (by omega) ?_ ?_ ?_ ?_ ?_
    any_goals (first | (simp; done) | skip)
    try rw [wrap_begin rfl]
    exact .mk (hQ _ _ ⟨rfl, rfl⟩)
  obtain ⟨e, H', h, rfl, rfl⟩ := this
  exact h
theorem call_64 {p : Mo → Bool} (hp : PredM g b o p) {v : AV} {l : List Mo} {H : Heap} (hv : Rd tM H v l) (hb : b < H.next) (ho : H.obj b = o) (hl : l.length < 2 ^ 40) : callI tab 64 [v, .fn g [] [.ptr b 0]] H = some (.bool (l.any p), H) := by
  refine callI_enter tab_64 (by simp [AF64]) (.inl rfl) ?_
  have hc := call_97 hp (H := H.begin) (v := v) hv hb ho hl
  simp -implicitDefEqProofs (disch := first | omega | with_unfolding_all exact eqR (Eq.refl _)) [nums, -getElem!_pos, -Int.natCast_add, -Int.natCast_mul, -Int.natCast_ediv, AF64, hc, findI_any]


theorem l103_2 {p : Int → Bool} (hp : PredB g b o p) {v : AV} {l : List Int} {H : Heap} (hv : Rd tB H v l) (hb : b < H.next) (ho : H.obj b = o) (hl : l.length < 2 ^ 40) {H0 : Heap} : ∀ (m i : Nat) (σ : Sig), l.length - i = m → i ≤ l.length →
    σ 0 = v → σ 1 = .fn g [] [.ptr b 0] → σ 7 = .int .i64 l.length → σ 8 = .int .i64 i →
    Res (some (wrapA H0 (.int .i64 (findI p i (l.drop i))) H)) Q →
    Res (li (callI tab) L103_2 [.inBlock 0, .code S103_3] (fink [.tmp 4] false H0) σ H) Q := by
  intro m
  induction m with
  | zero =>
    intro i σ hm hi h0 h1 h7 h8 hQ
    rw [List.drop_of_length_le (by omega)] at hQ
    obtain ⟨il, hil⟩ : ∃ x, x = Jtm.inLoop L103_2 := ⟨_, rfl⟩; rw [li_eq' il hil]
    simp -implicitDefEqProofs (disch := first | omega | with_unfolding_all exact eqR (Eq.refl _)) [nums, -getElem!_pos, -Int.natCast_add, -Int.natCast_mul, -Int.natCast_ediv, L103_2, S103_0, S103_1, h0, h1, h7, h8]
    subst hil
    try simp -implicitDefEqProofs (disch := first | omega | with_unfolding_all exact eqR (Eq.refl _)) [nums, -getElem!_pos, -Int.natCast_add, -Int.natCast_mul, -Int.natCast_ediv, S103_3]
    exact hQ
  | succ m ih =>
    intro i σ hm hi h0 h1 h7 h8 hQ
    have hlt : i < l.length := by omega
    obtain ⟨q, e1, e2⟩ := hv.2 i hlt
    rw [show tB.e = 1 from rfl] at e1 e2
    rw [show tB.agg = false from rfl, show tB.val l[i] = AV.int .u8 l[i] from rfl] at e2
    rw [List.drop_eq_getElem_cons hlt, findI] at hQ
    have hc := hp l[i] H hb ho
    cases hpi : p l[i] with
    | true =>
      rw [hpi, if_pos rfl] at hQ
      rw [hpi] at hc
      obtain ⟨il, hil⟩ : ∃ x, x = Jtm.inLoop L103_2 := ⟨_, rfl⟩; rw [li_eq' il hil]
      simp -implicitDefEqProofs (disch := first | omega | with_unfolding_all exact eqR (Eq.refl _)) [nums, -getElem!_pos, -Int.natCast_add, -Int.natCast_mul, -Int.natCast_ediv, L103_2, S103_0, S103_1, h0, h1, h7, h8, e1, e2, hc]
      subst hil
      try simp -implicitDefEqProofs (disch := first | omega | with_unfolding_all exact eqR (Eq.refl _)) [nums, -getElem!_pos, -Int.natCast_add, -Int.natCast_mul, -Int.natCast_ediv]
      exact hQ
    | false =>
      rw [hpi, if_neg (by simp)] at hQ
      rw [hpi] at hc
      obtain ⟨il, hil⟩ : ∃ x, x = Jtm.inLoop L103_2 := ⟨_, rfl⟩; rw [li_eq' il hil]
      simp -implicitDefEqProofs (disch := first | omega | with_unfolding_all exact eqR (Eq.refl _)) [nums, -getElem!_pos, -Int.natCast_add, -Int.natCast_mul, -Int.natCast_ediv, L103_2, S103_0, S103_1, h0, h1, h7, h8, e1, e2, hc]
      subst hil
      try simp -implicitDefEqProofs (disch := first | omega | with_unfolding_all exact eqR (Eq.refl _)) [nums, -getElem!_pos, -Int.natCast_add, -Int.natCast_mul, -Int.natCast_ediv]
      refine ih (i + 1) _ (by omega) (by omega) ?_ ?_ ?_ ?_ hQ
      all_goals simp [h0, h1, h7, h8]
theorem call_103 {p : Int → Bool} (hp : PredB g b o p) {v : AV} {l : List Int} {H : Heap} (hv : Rd tB H v l) (hb : b < H.next) (ho : H.obj b = o) (hl : l.length < 2 ^ 40) : callI tab 103 [v, .fn g [] [.ptr b 0]] H = some (.int .i64 (findI p 0 l), H) := by
  have : Res (callI tab 103 [v, .fn g [] [.ptr b 0]] H) fun e H' => e = .int .i64 (findI p 0 l) ∧ H' = H := by
    refine .hide fun Q hQ => .enter tab_103 (by simp [AF103]) (.inl rfl) ?_
    have hln := hv.1
    have hln' : lenA H.begin 1 v = some (.int .i64 l.length) := hln
    simp -implicitDefEqProofs (disch := first | omega | with_unfolding_all exact eqR (Eq.refl _)) [nums, -getElem!_pos, -Int.natCast_add, -Int.natCast_mul, -Int.natCast_ediv, AF103, hln']
    refine l103_2 hp (H := H.begin) (v := v) hv hb ho hl _ 0 _ rfl (by omega) ?_ ?_ ?_ ?_ ?_
    any_goals (first | (simp; done) | skip)
    try rw [wrap_begin rfl]
    exact .mk (hQ _ _ ⟨rfl, rfl⟩)
  obtain ⟨e, H', h, rfl, rfl⟩ := this
  exact h
theorem call_73 {p : Int → Bool} (hp : PredB g b o p) {v : AV} {l : List Int} {H : Heap} (hv : Rd tB H v l) (hb : b < H.next) (ho : H.obj b = o) (hl : l.length < 2 ^ 40) : callI tab 73 [v, .fn g [] [.ptr b 0]] H = some (.bool (l.any p), H) := by
  refine callI_enter tab_73 (by simp [AF73]) (.inl rfl) ?_
  have hc := call_103 hp (H := H.begin) (v := v) hv hb ho hl
  simp -implicitDefEqProofs (disch := first | omega | with_unfolding_all exact eqR (Eq.refl _)) [nums, -getElem!_pos, -Int.natCast_add, -Int.natCast_mul, -Int.natCast_ediv, AF73, hc, findI_any]

/-! ### The function values -/
theorem call_33' {a c : Mo} {H : Heap} : callI tab 33 [mono a, mono c] H = some (.bool (decide (Mo.map2 imin a c = a)), H) := callI_of (call_33 (n := 0))
theorem call_35' {a c : Mo} {H : Heap} : callI tab 35 [mono a, mono c] H = some (.int .i64 (Mo.cmp a c), H) := callI_of (call_35 (n := 0))
def dvd (a c : Mo) : Bool := decide (Mo.map2 imin a c = a)
theorem call_91 : CmpM 91 (fun a c => Mo.cmp c a) := by
  intro a c H
  refine callI_enter tab_91 (by simp [AF91]) (.inr (by simp)) ?_
  simp -implicitDefEqProofs (disch := first | omega | with_unfolding_all exact eqR (Eq.refl _)) [nums, -getElem!_pos, -Int.natCast_add, -Int.natCast_mul, -Int.natCast_ediv, AF91, call_35']
theorem call_93 {m : Mo} : PredM 93 b (.cells m.cells none) (fun a => dvd a m) := by
  intro a H hb ho
  refine callI_enter tab_93 (by simp [AF93]) (.inr (by simp)) ?_
  have hne : b ≠ H.next := by omega
  simp -implicitDefEqProofs (disch := first | omega | with_unfolding_all exact eqR (Eq.refl _)) [nums, -getElem!_pos, -Int.natCast_add, -Int.natCast_mul, -Int.natCast_ediv, AF93, call_33', ho, hne, dvd]
theorem call_90 {m : Mo} : PredM 90 b (.cells m.cells none) (fun a => !decide (a = m) && dvd a m) := by
  intro a H hb ho
  refine callI_enter tab_90 (by simp [AF90]) (.inr (by simp)) ?_
  have hne : b ≠ H.next := by omega
  by_cases h : a = m
  · simp -implicitDefEqProofs (disch := first | omega | with_unfolding_all exact eqR (Eq.refl _)) [nums, -getElem!_pos, -Int.natCast_add, -Int.natCast_mul, -Int.natCast_ediv, AF90, call_33', ho, hne, h]
  · simp -implicitDefEqProofs (disch := first | omega | with_unfolding_all exact eqR (Eq.refl _)) [nums, -getElem!_pos, -Int.natCast_add, -Int.natCast_mul, -Int.natCast_ediv, AF90, call_33', ho, hne, h, dvd]
theorem call_89 {v : AV} {l : List Mo} (hv : ML tM v l) (hl : l.length < 2 ^ 40) : PredM 89 b (.cells [v] none) (fun m => l.any fun a => !decide (a = m) && dvd a m) := by
  intro m H hb ho
  refine callI_enter tab_89 (by simp [AF89]) (.inr (by simp)) ?_
  have hne : b ≠ H.next := by omega
  have hc := call_64 (b := H.next) (call_90 (m := m)) (H := H.begin.new (.cells m.cells none)) (v := v) (hv.rd _) (by show H.next < H.next + 1; omega) (by simp) hl
  simp -implicitDefEqProofs (disch := first | omega | with_unfolding_all exact eqR (Eq.refl _)) [nums, -getElem!_pos, -Int.natCast_add, -Int.natCast_mul, -Int.natCast_ediv, AF89, load1, ho, hne, hc]
theorem call_50 {m : Mo} {v : AV} {l : List Mo} (hv : ML tM v l) (hl : l.length < 2 ^ 40) {H : Heap} : callI tab 50 [mono m, v] H = some (.bool (l.any fun a => dvd a m), H) := by
  have hf := hv.frz
  refine callI_enter tab_50 (by simp [AF50]) (.inr (by simp [hf])) ?_
  have hc := call_64 (b := H.next) (call_93 (m := m)) (H := H.begin.new (.cells m.cells none)) (v := v) (hv.rd _) (by show H.next < H.next + 1; omega) (by simp) hl
  simp -implicitDefEqProofs (disch := first | omega | with_unfolding_all exact eqR (Eq.refl _)) [nums, -getElem!_pos, -Int.natCast_add, -Int.natCast_mul, -Int.natCast_ediv, AF50, hc]
end
end Ytl
end Go.Mach
