/-
  Pruned copy of the text Nk. By an AI agent.
-/
import Derived.Test.YtlbihaiejbpjoaaGreatZ10Ng
set_option linter.unusedSimpArgs false
set_option linter.unusedVariables false
set_option maxRecDepth 100000
namespace Go.Mach
def lenA (H : Heap) : Nat → AV → Option AV
  | 1, .nils => some (.int .i64 0)
  | 1, .sl _ _ n _ _ _ => some (.int .i64 n)
  | 1, .vec n _ _ => some (.int .i64 n)
  | 0, .str s => some (.int .i64 s.size)
  | 2, .nilm => some (.int .i64 0)
  | 2, .mp id => match H.obj id with
    | .map es => some (.int .i64 es.length)
    | _ => none
  | _, _ => none
theorem pureA_len {f : AOpd → AV} {H : Heap} {kd : Nat} {x : AOpd} : pureA f H (.len kd x) = lenA H kd (f x) := rfl
theorem lenA_nils {H : Heap} : lenA H 1 .nils = some (.int .i64 0) := rfl
theorem lenA_sl {H : Heap} {a b n l e : Nat} {ex : Bool} : lenA H 1 (.sl a b n l ex e) = some (.int .i64 n) := rfl
theorem lenA_vec {H : Heap} {n : Nat} {ex : Bool} {cs : List AV} : lenA H 1 (.vec n ex cs) = some (.int .i64 n) := rfl
theorem lenA_str {H : Heap} {s : ByteArray} : lenA H 0 (.str s) = some (.int .i64 s.size) := rfl
attribute [simp ↓ high] pureA_len
attribute [simp] lenA_nils lenA_sl lenA_vec lenA_str
def Rd {α : Type} (t : Ty α) (H : Heap) (v : AV) (l : List α) : Prop :=
  lenA H 1 v = some (.int .i64 l.length) ∧ ∀ i (h : i < l.length), ∃ p, iaddrA none t.e v (.int .i64 i) = some p ∧ loadA H t.agg t.e p = some (t.val l[i])
def ML {α : Type} (t : Ty α) (v : AV) (l : List α) : Prop := (v = .nils ∧ l = []) ∨ ∃ ex, v = .vec l.length ex (t.row l)
theorem row_ne {α : Type} (t : Ty α) {l : List α} {i : Nat} (h : i < l.length) : t.row l ≠ [] := by
  intro e
  have := t.row_length l
  rw [e] at this
  have := t.pos
  have h3 : 0 < l.length * t.e := Nat.mul_pos (by omega) t.pos
  simp at *
  omega
theorem ML.rd {α : Type} {t : Ty α} {v : AV} {l : List α} (h : ML t v l) (H : Heap) : Rd t H v l := by
  rcases h with ⟨rfl, rfl⟩ | ⟨ex, rfl⟩
  · exact ⟨rfl, fun i h => nomatch h⟩
  · refine ⟨rfl, fun i h => ⟨.pv (t.row l) (i * t.e), ?_, ?_⟩⟩
    · simp only [iaddrA]
      rw [if_pos ⟨by omega, by omega, row_ne t h⟩]
      simp
    · rw [loadA_pv, t.row_part l i h]
theorem Rd.live {α : Type} {t : Ty α} {H : Heap} {id lo : Nat} {ex : Bool} {l m : List α} {n : Nat} {rel : Option Nat} (ho : H.obj id = .cells (t.row m) rel) (hn : n = l.length) (hm : l = m.take n) (hle : n ≤ m.length) : Rd t H (.sl id 0 n lo ex t.e) l := by
  subst hn
  refine ⟨rfl, fun i h => ⟨.ptr id (i * t.e), ?_, ?_⟩⟩
  · rw [iaddr_sl (by omega)]; simp
  · rw [loadA_ptr, read_eq, ho, rdO_cells, partO_some, t.row_part m i (by omega)]
    congr 2
    have : l[i] = (m.take l.length)[i]'(by rw [← hm]; exact h) := by congr 1
    rw [this, List.getElem_take]
theorem ML.nonew {α : Type} {t : Ty α} {v : AV} {l : List α} (h : ML t v l) (b n : Nat) : v.noNew b (n + 1) = true := by
  rcases h with ⟨rfl, rfl⟩ | ⟨ex, rfl⟩ <;> rfl
theorem ML.frz {α : Type} {t : Ty α} {v : AV} {l : List α} (h : ML t v l) (b n : Nat) (H : Heap) : frz b (n + 1) H v = some (v, H) := by
  rcases h with ⟨rfl, rfl⟩ | ⟨ex, rfl⟩ <;> rfl
theorem ML.flat {α : Type} {t : Ty α} {v : AV} {l : List α} (h : ML t v l) : v.flat = some [v] := by
  rcases h with ⟨rfl, rfl⟩ | ⟨ex, rfl⟩ <;> rfl
theorem ML.isNil {α : Type} {t : Ty α} {v : AV} {l : List α} (h : ML t v l) : ∃ b, eqNil 1 v = some b := by
  rcases h with ⟨rfl, rfl⟩ | ⟨ex, rfl⟩ <;> exact ⟨_, rfl⟩
namespace Ytl
section
variable {g b : Nat} {o : AObj} {s : List Jtm} {k : KF} {Q : AV → Heap → Prop}
def PredM (g b : Nat) (o : AObj) (p : Mo → Bool) : Prop := ∀ a H, b < H.next → H.obj b = o → callI tab g [mono a, .ptr b 0] H = some (.bool (p a), H)
def PredB (g b : Nat) (o : AObj) (p : Int → Bool) : Prop := ∀ a H, b < H.next → H.obj b = o → callI tab g [.int .u8 a, .ptr b 0] H = some (.bool (p a), H)
def findI {α : Type} (p : α → Bool) : Nat → List α → Int
  | _, [] => -1
  | i, a :: l => if p a then (i : Int) else findI p (i + 1) l
theorem findI_any {α : Type} (p : α → Bool) (l : List α) : ∀ i, decide (0 ≤ findI p i l) = l.any p := by
  induction l with
  | nil => intro i; rfl
  | cons a l ih =>
    intro i
    by_cases h : p a = true
    · simp [findI, h]
    · simp only [findI, List.any_cons, if_neg h]
      rw [ih]
      simp [h]
theorem l97_2 {p : Mo → Bool} (hp : PredM g b o p) {v : AV} {l : List Mo} {H : Heap} (hv : Rd tM H v l) (hb : b < H.next) (ho : H.obj b = o) (hl : l.length < 2 ^ 40) {H0 : Heap} : ∀ (m i : Nat) (σ : Sig), l.length - i = m → i ≤ l.length →
    σ 0 = v → σ 1 = .fn g [] [.ptr b 0] → σ 7 = .int .i64 l.length → σ 8 = .int .i64 i →
    Res (some (wrapA H0 (.int .i64 (findI p i (l.drop i))) H)) Q →
    Res (li (callI tab) L97_2 [.inBlock 0, .code S97_3] (fink [.tmp 4] false H0) σ H) Q := by
  intro m
  induction m with
  | zero =>
    intro i σ hm hi h0 h1 h7 h8 hQ
    rw [List.drop_of_length_le (by omega)] at hQ
    obtain ⟨il, hil⟩ : ∃ x, x = Jtm.inLoop L97_2 := ⟨_, rfl⟩; rw [li_eq' il hil]
    simp -implicitDefEqProofs (disch := first | omega | with_unfolding_all exact eqR (Eq.refl _)) [nums, -getElem!_pos, -Int.natCast_add, -Int.natCast_mul, -Int.natCast_ediv, L97_2, S97_0, S97_1, h0, h1, h7, h8]
    subst hil
    try simp -implicitDefEqProofs (disch := first | omega | with_unfolding_all exact eqR (Eq.refl _)) [nums, -getElem!_pos, -Int.natCast_add, -Int.natCast_mul, -Int.natCast_ediv, S97_3]
    exact hQ
  | succ m ih =>
    intro i σ hm hi h0 h1 h7 h8 hQ
    have hlt : i < l.length := by omega
    obtain ⟨q, e1, e2⟩ := hv.2 i hlt
    rw [show tM.e = 8 from rfl] at e1 e2
    rw [show tM.agg = true from rfl, show tM.val l[i] = mono l[i] from rfl] at e2
    rw [List.drop_eq_getElem_cons hlt, findI] at hQ
    have hc := hp l[i] H hb ho
    cases hpi : p l[i] with
    | true =>
      rw [hpi, if_pos rfl] at hQ
      rw [hpi] at hc
      obtain ⟨il, hil⟩ : ∃ x, x = Jtm.inLoop L97_2 := ⟨_, rfl⟩; rw [li_eq' il hil]
      simp -implicitDefEqProofs (disch := first | omega | with_unfolding_all exact eqR (Eq.refl _)) [nums, -getElem!_pos, -Int.natCast_add, -Int.natCast_mul, -Int.natCast_ediv, L97_2, S97_0, S97_1, h0, h1, h7, h8, e1, e2, hc]
      subst hil
      try simp -implicitDefEqProofs (disch := first | omega | with_unfolding_all exact eqR (Eq.refl _)) [nums, -getElem!_pos, -Int.natCast_add, -Int.natCast_mul, -Int.natCast_ediv]
      exact hQ
    | false =>
      rw [hpi, if_neg (by simp)] at hQ
      rw [hpi] at hc
      obtain ⟨il, hil⟩ : ∃ x, x = Jtm.inLoop L97_2 := ⟨_, rfl⟩; rw [li_eq' il hil]
      simp -implicitDefEqProofs (disch := first | omega | with_unfolding_all exact eqR (Eq.refl _)) [nums, -getElem!_pos, -Int.natCast_add, -Int.natCast_mul, -Int.natCast_ediv, L97_2, S97_0, S97_1, h0, h1, h7, h8, e1, e2, hc]
      subst hil
      try simp -implicitDefEqProofs (disch := first | omega | with_unfolding_all exact eqR (Eq.refl _)) [nums, -getElem!_pos, -Int.natCast_add, -Int.natCast_mul, -Int.natCast_ediv]
      refine ih (i + 1) _ (by omega) (by omega) ?_ ?_ ?_ ?_ hQ
      all_goals simp [h0, h1, h7, h8]
theorem call_97 {p : Mo → Bool} (hp : PredM g b o p) {v : AV} {l : List Mo} {H : Heap} (hv : Rd tM H v l) (hb : b < H.next) (ho : H.obj b = o) (hl : l.length < 2 ^ 40) : callI tab 48 [v, .fn g [] [.ptr b 0]] H = some (.int .i64 (findI p 0 l), H) := by
  have : Res (callI tab 48 [v, .fn g [] [.ptr b 0]] H) fun e H' => e = .int .i64 (findI p 0 l) ∧ H' = H := by
    refine .hide fun Q hQ => .enter tab_97 (by simp [AF97]) (.inl rfl) ?_
    have hln := hv.1
    have hln' : lenA H.begin 1 v = some (.int .i64 l.length) := hln
    simp -implicitDefEqProofs (disch := first | omega | with_unfolding_all exact eqR (Eq.refl _)) [nums, -getElem!_pos, -Int.natCast_add, -Int.natCast_mul, -Int.natCast_ediv, AF97, hln']
    refine l97_2 hp (H := H.begin) (v := v) hv hb ho hl _ 0 _ rfl (by omega) ?_ ?_ ?_ ?_ ?_
    any_goals (first | (simp; done) | skip)
    try rw [wrap_begin rfl]
    exact .mk (hQ _ _ ⟨rfl, rfl⟩)
  obtain ⟨e, H', h, rfl, rfl⟩ := this
  exact h
theorem call_64 {p : Mo → Bool} (hp : PredM g b o p) {v : AV} {l : List Mo} {H : Heap} (hv : Rd tM H v l) (hb : b < H.next) (ho : H.obj b = o) (hl : l.length < 2 ^ 40) : callI tab 22 [v, .fn g [] [.ptr b 0]] H = some (.bool (l.any p), H) := by
  refine callI_enter tab_64 (by simp [AF64]) (.inl rfl) ?_
  have hc := call_97 hp (H := H.begin) (v := v) hv hb ho hl
  simp -implicitDefEqProofs (disch := first | omega | with_unfolding_all exact eqR (Eq.refl _)) [nums, -getElem!_pos, -Int.natCast_add, -Int.natCast_mul, -Int.natCast_ediv, AF64, hc, findI_any]
theorem l103_2 {p : Int → Bool} (hp : PredB g b o p) {v : AV} {l : List Int} {H : Heap} (hv : Rd tB H v l) (hb : b < H.next) (ho : H.obj b = o) (hl : l.length < 2 ^ 40) {H0 : Heap} : ∀ (m i : Nat) (σ : Sig), l.length - i = m → i ≤ l.length →
    σ 0 = v → σ 1 = .fn g [] [.ptr b 0] → σ 7 = .int .i64 l.length → σ 8 = .int .i64 i →
    Res (some (wrapA H0 (.int .i64 (findI p i (l.drop i))) H)) Q →
    Res (li (callI tab) L103_2 [.inBlock 0, .code S103_3] (fink [.tmp 4] false H0) σ H) Q := by
  intro m
  induction m with
  | zero =>
    intro i σ hm hi h0 h1 h7 h8 hQ
    rw [List.drop_of_length_le (by omega)] at hQ
    obtain ⟨il, hil⟩ : ∃ x, x = Jtm.inLoop L103_2 := ⟨_, rfl⟩; rw [li_eq' il hil]
    simp -implicitDefEqProofs (disch := first | omega | with_unfolding_all exact eqR (Eq.refl _)) [nums, -getElem!_pos, -Int.natCast_add, -Int.natCast_mul, -Int.natCast_ediv, L103_2, S103_0, S103_1, h0, h1, h7, h8]
    subst hil
    try simp -implicitDefEqProofs (disch := first | omega | with_unfolding_all exact eqR (Eq.refl _)) [nums, -getElem!_pos, -Int.natCast_add, -Int.natCast_mul, -Int.natCast_ediv, S103_3]
    exact hQ
  | succ m ih =>
    intro i σ hm hi h0 h1 h7 h8 hQ
    have hlt : i < l.length := by omega
    obtain ⟨q, e1, e2⟩ := hv.2 i hlt
    rw [show tB.e = 1 from rfl] at e1 e2
    rw [show tB.agg = false from rfl, show tB.val l[i] = AV.int .u8 l[i] from rfl] at e2
    rw [List.drop_eq_getElem_cons hlt, findI] at hQ
    have hc := hp l[i] H hb ho
    cases hpi : p l[i] with
    | true =>
      rw [hpi, if_pos rfl] at hQ
      rw [hpi] at hc
      obtain ⟨il, hil⟩ : ∃ x, x = Jtm.inLoop L103_2 := ⟨_, rfl⟩; rw [li_eq' il hil]
      simp -implicitDefEqProofs (disch := first | omega | with_unfolding_all exact eqR (Eq.refl _)) [nums, -getElem!_pos, -Int.natCast_add, -Int.natCast_mul, -Int.natCast_ediv, L103_2, S103_0, S103_1, h0, h1, h7, h8, e1, e2, hc]
      subst hil
      try simp -implicitDefEqProofs (disch := first | omega | with_unfolding_all exact eqR (Eq.refl _)) [nums, -getElem!_pos, -Int.natCast_add, -Int.natCast_mul, -Int.natCast_ediv]
      exact hQ
    | false =>
      rw [hpi, if_neg (by simp)] at hQ
      rw [hpi] at hc
      obtain ⟨il, hil⟩ : ∃ x, x = Jtm.inLoop L103_2 := ⟨_, rfl⟩; rw [li_eq' il hil]
      simp -implicitDefEqProofs (disch := first | omega | with_unfolding_all exact eqR (Eq.refl _)) [nums, -getElem!_pos, -Int.natCast_add, -Int.natCast_mul, -Int.natCast_ediv, L103_2, S103_0, S103_1, h0, h1, h7, h8, e1, e2, hc]
      subst hil
      try simp -implicitDefEqProofs (disch := first | omega | with_unfolding_all exact eqR (Eq.refl _)) [nums, -getElem!_pos, -Int.natCast_add, -Int.natCast_mul, -Int.natCast_ediv]
      refine ih (i + 1) _ (by omega) (by omega) ?_ ?_ ?_ ?_ hQ
      all_goals simp [h0, h1, h7, h8]
theorem call_103 {p : Int → Bool} (hp : PredB g b o p) {v : AV} {l : List Int} {H : Heap} (hv : Rd tB H v l) (hb : b < H.next) (ho : H.obj b = o) (hl : l.length < 2 ^ 40) : callI tab 68 [v, .fn g [] [.ptr b 0]] H = some (.int .i64 (findI p 0 l), H) := by
  have : Res (callI tab 68 [v, .fn g [] [.ptr b 0]] H) fun e H' => e = .int .i64 (findI p 0 l) ∧ H' = H := by
    refine .hide fun Q hQ => .enter tab_103 (by simp [AF103]) (.inl rfl) ?_
    have hln := hv.1
    have hln' : lenA H.begin 1 v = some (.int .i64 l.length) := hln
    simp -implicitDefEqProofs (disch := first | omega | with_unfolding_all exact eqR (Eq.refl _)) [nums, -getElem!_pos, -Int.natCast_add, -Int.natCast_mul, -Int.natCast_ediv, AF103, hln']
    refine l103_2 hp (H := H.begin) (v := v) hv hb ho hl _ 0 _ rfl (by omega) ?_ ?_ ?_ ?_ ?_
    any_goals (first | (simp; done) | skip)
    try rw [wrap_begin rfl]
    exact .mk (hQ _ _ ⟨rfl, rfl⟩)
  obtain ⟨e, H', h, rfl, rfl⟩ := this
  exact h
theorem call_73 {p : Int → Bool} (hp : PredB g b o p) {v : AV} {l : List Int} {H : Heap} (hv : Rd tB H v l) (hb : b < H.next) (ho : H.obj b = o) (hl : l.length < 2 ^ 40) : callI tab 42 [v, .fn g [] [.ptr b 0]] H = some (.bool (l.any p), H) := by
  refine callI_enter tab_73 (by simp [AF73]) (.inl rfl) ?_
  have hc := call_103 hp (H := H.begin) (v := v) hv hb ho hl
  simp -implicitDefEqProofs (disch := first | omega | with_unfolding_all exact eqR (Eq.refl _)) [nums, -getElem!_pos, -Int.natCast_add, -Int.natCast_mul, -Int.natCast_ediv, AF73, hc, findI_any]
theorem call_33' {a c : Mo} {H : Heap} : callI tab 30 [mono a, mono c] H = some (.bool (decide (Mo.map2 imin a c = a)), H) := callI_of (call_33 (n := 0))
theorem call_35' {a c : Mo} {H : Heap} : callI tab 34 [mono a, mono c] H = some (.int .i64 (Mo.cmp a c), H) := callI_of (call_35 (n := 0))
def dvd (a c : Mo) : Bool := decide (Mo.map2 imin a c = a)
theorem call_91 : CmpM 53 (fun a c => Mo.cmp c a) := by
  intro a c H
  refine callI_enter tab_91 (by simp [AF91]) (.inr (by simp)) ?_
  simp -implicitDefEqProofs (disch := first | omega | with_unfolding_all exact eqR (Eq.refl _)) [nums, -getElem!_pos, -Int.natCast_add, -Int.natCast_mul, -Int.natCast_ediv, AF91, call_35']
theorem call_90 {m : Mo} : PredM 52 b (.cells m.cells none) (fun a => !decide (a = m) && dvd a m) := by
  intro a H hb ho
  refine callI_enter tab_90 (by simp [AF90]) (.inr (by simp)) ?_
  have hne : b ≠ H.next := by omega
  by_cases h : a = m
  · simp -implicitDefEqProofs (disch := first | omega | with_unfolding_all exact eqR (Eq.refl _)) [nums, -getElem!_pos, -Int.natCast_add, -Int.natCast_mul, -Int.natCast_ediv, AF90, call_33', ho, hne, h]
  · simp -implicitDefEqProofs (disch := first | omega | with_unfolding_all exact eqR (Eq.refl _)) [nums, -getElem!_pos, -Int.natCast_add, -Int.natCast_mul, -Int.natCast_ediv, AF90, call_33', ho, hne, h, dvd]
theorem call_89 {v : AV} {l : List Mo} (hv : ML tM v l) (hl : l.length < 2 ^ 40) : PredM 51 b (.cells [v] none) (fun m => l.any fun a => !decide (a = m) && dvd a m) := by
  intro m H hb ho
  refine callI_enter tab_89 (by simp [AF89]) (.inr (by simp)) ?_
  have hne : b ≠ H.next := by omega
  have hc := call_64 (b := H.next) (call_90 (m := m)) (H := H.begin.new (.cells m.cells none)) (v := v) (hv.rd _) (by show H.next < H.next + 1; omega) (by simp) hl
  simp -implicitDefEqProofs (disch := first | omega | with_unfolding_all exact eqR (Eq.refl _)) [nums, -getElem!_pos, -Int.natCast_add, -Int.natCast_mul, -Int.natCast_ediv, AF89, load1, ho, hne, hc]
end
end Ytl
end Go.Mach
set_option linter.unusedSimpArgs false
set_option linter.unusedVariables false
set_option maxRecDepth 100000
namespace Go.Mach
theorem heapA_app {f : AOpd → AV} {H : Heap} {e bs : Nat} {x y : AOpd} : heapA f H (.app e bs x y) = appA H e bs (f x) (f y) := rfl
theorem heapA_bslice0 {f : AOpd → AV} {H : Heap} {e : Nat} : heapA f H (.bslice 0 e [] []) = some (.vec 0 true [], H) := rfl
def clrA (H : Heap) (e : Nat) (z : List AV) (v : AV) : R := heapA (fun _ => v) H (.clr e z (.t 0))
theorem heapA_clr {f : AOpd → AV} {H : Heap} {e : Nat} {z : List AV} {x : AOpd} : heapA f H (.clr e z x) = clrA H e z (f x) := rfl
theorem pureA_slc {f : AOpd → AV} {H : Heap} {k : SK} {e : Nat} {x : AOpd} {lo hi mx : Option AOpd} : pureA f H (.slc k e x lo hi mx) = slcA H k e (f x) (lo.map f) (hi.map f) (mx.map f) := rfl
attribute [simp ↓ high] pureA_slc
attribute [simp] heapA_app heapA_bslice0 heapA_clr
theorem slc_from {H : Heap} {e id off len lo i : Nat} {ex : Bool} {k : IntKind} (h : i ≤ len) (hl : len ≤ lo) (hi : i < lo) : slcA H .sli e (.sl id off len lo ex e) (some (.int k i)) none none = some (.sl id (off + i * e) (len - i) (lo - i) ex e) := by
  simp only [slcA, bnds, bnd, if_true]
  rw [if_pos (by omega)]
  simp only [Int.toNat_natCast]
  rw [if_pos hl, if_neg (by omega)]
theorem slc_to {H : Heap} {e id len lo i : Nat} {ex : Bool} {k : IntKind} (h : i ≤ lo) : slcA H .sli e (.sl id 0 len lo ex e) none (some (.int k i)) none = some (.sl id 0 i lo ex e) := by
  simp only [slcA, bnds, bnd, if_true]
  rw [if_pos (by omega)]
  simp only [Int.toNat_natCast]
  rw [if_pos h, if_neg (by omega)]
  simp
theorem clr_sl {H : Heap} {e id off n lo : Nat} {ex : Bool} {z ds : List AV} {rel : Option Nat} (ho : H.obj id = .cells ds rel) (hn : n ≠ 0) (hl : off + n * e ≤ ds.length) (hz : z.length = e) : clrA H e z (.sl id off n lo ex e) = some (undefA, (H.kill rel).set id (.cells (put ds off (List.replicate n z).flatten) none)) := by
  simp only [clrA, heapA, if_true]
  rw [if_neg hn, ho]
  simp only [hl, hz, and_self, if_true]
namespace Ytl
theorem row_replicate (n : Nat) : (List.replicate n [AV.int .i64 0, .int .i64 0, .int .i64 0, .int .i64 0, .int .i64 0, .int .i64 0, .int .i64 0, .int .i64 0]).flatten = tM.row (List.replicate n Mo.zero) := by
  induction n with
  | zero => rfl
  | succ n ih => rw [List.replicate_succ, List.replicate_succ, List.flatten_cons, ih]; rfl
theorem row_replicate' (n : Nat) : (List.replicate n Mo.zero.cells).flatten = tM.row (List.replicate n Mo.zero) := row_replicate n
section
variable {g b : Nat} {o : AObj} {s : List Jtm} {k : KF} {Q : AV → Heap → Prop}
theorem app_vec0 {H : Heap} {l : List Mo} {ex : Bool} (hl : l.length < 2 ^ 16) (hne : l ≠ []) : appA H 8 64 (.vec 0 true []) (.vec l.length ex (tM.row l)) = some (.sl H.next 0 l.length l.length false 8, H.new (.cells (tM.row l) none)) := by
  have h1 : (tM.row l).length = l.length * 8 := tM.row_length l
  have h2 : l.length ≠ 0 := by simpa using hne
  simp only [appA, srcA, h1, if_true]
  rw [if_neg h2, if_pos ⟨by omega, by simp⟩]
  simp
theorem call_87n {H : Heap} : callI tab 49 [.nils] H = some (.nils, H) := by
  refine callI_enter tab_87 (by simp [AF87]) (.inl rfl) ?_
  simp -implicitDefEqProofs (disch := first | omega | with_unfolding_all exact eqR (Eq.refl _)) [nums, -getElem!_pos, -Int.natCast_add, -Int.natCast_mul, -Int.natCast_ediv, AF87, S87_0, eqNil]
theorem call_87v {ex : Bool} {H : Heap} : callI tab 49 [.vec 0 ex []] H = some (.vec 0 true [], H) := by
  refine callI_enter tab_87 (by simp [AF87]) (.inl rfl) ?_
  simp -implicitDefEqProofs (disch := first | omega | with_unfolding_all exact eqR (Eq.refl _)) [nums, -getElem!_pos, -Int.natCast_add, -Int.natCast_mul, -Int.natCast_ediv, AF87, S87_0, eqNil, appA, srcA]
theorem call_87 {ex : Bool} {l : List Mo} {H : Heap} (hl : l.length < 2 ^ 16) (hne : l ≠ []) : callI tab 49 [.vec l.length ex (tM.row l)] H = some (.sl H.next 0 l.length l.length false 8, H.new (.cells (tM.row l) none)) := by
  refine callI_enter tab_87 (by simp [AF87]) (.inl rfl) ?_
  simp -implicitDefEqProofs (disch := first | omega | with_unfolding_all exact eqR (Eq.refl _)) [nums, -getElem!_pos, -Int.natCast_add, -Int.natCast_mul, -Int.natCast_ediv, AF87, S87_0, eqNil, app_vec0 hl hne]
  unfold wrapA
  have h : (AV.sl H.next 0 l.length l.length false 8).noNew H.next 4 = false := by simp [AV.noNew]
  have hu : unrelO H.next (AV.sl H.next 0 l.length l.length false 8) (H.begin.new (.cells (tM.row l) none)).obj = (H.begin.new (.cells (tM.row l) none)).obj := by simp [unrelO, Heap.new, upd]
  show (if (AV.sl H.next 0 l.length l.length false 8).noNew H.next 4 = true then _ else _) = _
  rw [h, hu]
  rfl
theorem storeZ {H : Heap} {m a : Mo} {rel : Option Nat} {j : Nat} : stO H 8 j 0 (.cells m.cells rel) (some a.cells) = some ((H.kill rel).set j (.cells a.cells none)) := by
  rw [stO_some, if_pos ⟨rfl, Nat.le_refl _⟩, put_mono rfl]
structure Del (p : Mo → Bool) (l : List Mo) (j i : Nat) (d : Array Mo) : Prop where
  size : d.size = l.length
  take : d.toList.take i = (l.take j).filter fun x => !p x
  len : i = ((l.take j).filter fun x => !p x).length
  rest : d.toList.drop j = l.drop j
theorem Del.le {p : Mo → Bool} {l : List Mo} {j i : Nat} {d : Array Mo} (h : Del p l j i d) : i ≤ j ∧ i ≤ l.length := by
  have := List.length_filter_le (fun x => !p x) (l.take j)
  have h2 : (l.take j).length ≤ j := List.length_take_le _ _
  have h3 : (l.take j).length ≤ l.length := List.length_take_le' _ _
  have := h.len
  omega
theorem Del.at {p : Mo → Bool} {l : List Mo} {j i : Nat} {d : Array Mo} (h : Del p l j i d) (hj : j < l.length) : d[j]! = l[j] := by
  have hd : j < d.size := by rw [h.size]; exact hj
  have h1 : d.toList[j]'(by simpa using hd) = l[j] := by
    have := congrArg (fun x => x[0]?) h.rest
    simp only [List.getElem?_drop, Nat.add_zero] at this
    rw [List.getElem?_eq_getElem (by simpa using hd), List.getElem?_eq_getElem hj] at this
    exact Option.some.inj this
  rw [← h1]; simp [hd]
theorem Del.drop {p : Mo → Bool} {l : List Mo} {j i : Nat} {d : Array Mo} (h : Del p l j i d) (hj : j < l.length) (hp : p l[j] = true) : Del p l (j + 1) i d where
  size := h.size
  take := by rw [h.take, List.take_succ_eq_append_getElem hj, List.filter_append]; simp [hp]
  len := by rw [List.take_succ_eq_append_getElem hj, List.filter_append]; simp [hp]; exact h.len
  rest := by rw [← List.drop_drop, h.rest, List.drop_drop]
theorem Del.keep {p : Mo → Bool} {l : List Mo} {j i : Nat} {d : Array Mo} (h : Del p l j i d) (hj : j < l.length) (hp : p l[j] = false) : Del p l (j + 1) (i + 1) (d.setIfInBounds i l[j]) where
  size := by simp [h.size]
  take := by
    have hi : i < d.toList.length := by have := h.le; have := h.size; simp; omega
    rw [List.take_succ_eq_append_getElem hj, List.filter_append, ← h.take, Array.toList_setIfInBounds]
    rw [List.take_succ_eq_append_getElem (by simpa using hi), List.take_set, List.set_eq_of_length_le (List.length_take_le _ _)]
    simp [hp]
  len := by rw [List.take_succ_eq_append_getElem hj, List.filter_append]; simp [hp]; exact h.len
  rest := by
    have := h.le
    rw [Array.toList_setIfInBounds, List.drop_set_of_lt (by omega), ← List.drop_drop, h.rest, List.drop_drop]
theorem findI_none {α : Type} (p : α → Bool) (l : List α) : ∀ i, findI p i l = -1 → l.filter (fun x => !p x) = l := by
  induction l with
  | nil => intro i _; rfl
  | cons a l ih =>
    intro i h
    simp only [findI] at h
    split at h
    · omega
    · rename_i hp
      rw [List.filter_cons, if_pos (by simp [hp]), ih _ h]
theorem findI_some {α : Type} (p : α → Bool) (l : List α) : ∀ i, findI p i l ≠ -1 → ∃ j, ∃ h : j < l.length, findI p i l = ((i + j : Nat) : Int) ∧ p l[j] = true ∧ (l.take j).filter (fun x => !p x) = l.take j := by
  induction l with
  | nil => intro i h; exact (h rfl).elim
  | cons a l ih =>
    intro i h
    simp only [findI] at h ⊢
    by_cases hp : p a = true
    · rw [if_pos hp]
      exact ⟨0, by simp, rfl, hp, rfl⟩
    · rw [if_neg hp] at h ⊢
      obtain ⟨j, hj, h1, h2, h3⟩ := ih _ h
      refine ⟨j + 1, by simp; omega, by rw [h1]; omega, h2, ?_⟩
      rw [List.take_succ_cons, List.filter_cons, if_pos (by simp [hp]), h3]
theorem l88_2 {p : Mo → Bool} (hp : PredM g b o p) {id : Nat} {ex : Bool} {l : List Mo} {H0 : Heap} (hid : id < H0.next) (hb0 : b < H0.next) (hne : b ≠ id) (ho : H0.obj b = o) (hbase : H0.base = H0.next) (hl : l.length < 2 ^ 40) : ∀ (m j i : Nat) (σ : Sig) (H : Heap) (d : Array Mo), l.length - j = m →
    σ 0 = .sl id 0 l.length l.length ex 8 → σ 1 = .fn g [] [.ptr b 0] → σ 5 = .int .i64 (i : Nat) → σ 6 = .int .i64 (j : Nat) → Del p l j i d → j ≤ l.length → i < j → Fx H0 H id (.cells (tM.arr d) none) →
    (∀ σ' H' d' i', σ' 0 = .sl id 0 l.length l.length ex 8 → σ' 5 = .int .i64 (i' : Nat) → Del p l l.length i' d' → i' < l.length → Fx H0 H' id (.cells (tM.arr d') none) → Res (ai (callI tab) s k .nrm σ' H') Q) →
    Res (li (callI tab) L88_2 (.inBlock 0 :: s) k σ H) Q := by
  intro m
  induction m with
  | zero =>
    intro j i σ H d hm h0 h1 h5 h6 hD hj hi hf hQ
    have : j = l.length := by omega
    subst this
    obtain ⟨il, hil⟩ : ∃ x, x = Jtm.inLoop L88_2 := ⟨_, rfl⟩; rw [li_eq' il hil]
    simp -implicitDefEqProofs (disch := first | omega | with_unfolding_all exact eqR (Eq.refl _)) [nums, -getElem!_pos, -Int.natCast_add, -Int.natCast_mul, -Int.natCast_ediv, L88_2, S88_0, S88_1, h0, h1, h5, h6]
    subst hil
    try simp -implicitDefEqProofs (disch := first | omega | with_unfolding_all exact eqR (Eq.refl _)) [nums, -getElem!_pos, -Int.natCast_add, -Int.natCast_mul, -Int.natCast_ediv]
    refine hQ _ _ d i ?_ ?_ hD hi hf <;> simp [h0, h5]
  | succ m ih =>
    intro j i σ H d hm h0 h1 h5 h6 hD hj hi hf hQ
    have hjl : j < l.length := by omega
    have hat := hD.at hjl
    have hsz := hD.size
    have hle := hD.le
    have hd := hf.at
    have hn := hf.next
    have hbn : b ≠ H.next := by omega
    have hin : id ≠ H.next := by omega
    have hob : H.obj b = o := (hf.ne hb0 hne).trans ho
    have hc := hp l[j] ((H.new (.cells Mo.zero.cells none)).set H.next (.cells l[j].cells none)) (by show b < H.next + 1; omega) (by simp [hbn, hob])
    have hf2 : Fx H0 ((H.new (.cells Mo.zero.cells none)).set H.next (.cells l[j].cells none)) id (.cells (tM.arr d) none) := hf.new.own (Wr.set (by show H.next < H.next + 1; omega)).toFx hn (by rw [hbase]; exact hn)
    cases hpj : p l[j] with
    | true =>
      rw [hpj] at hc
      obtain ⟨il, hil⟩ : ∃ x, x = Jtm.inLoop L88_2 := ⟨_, rfl⟩; rw [li_eq' il hil]
      simp -implicitDefEqProofs (disch := first | omega | with_unfolding_all exact eqR (Eq.refl _)) [nums, -getElem!_pos, -Int.natCast_add, -Int.natCast_mul, -Int.natCast_ediv, L88_2, S88_0, S88_1, h0, h1, h5, h6, hd, loadM, storeM, hat, hc, hin, hbn, storeZ]
      subst hil
      try simp -implicitDefEqProofs (disch := first | omega | with_unfolding_all exact eqR (Eq.refl _)) [nums, -getElem!_pos, -Int.natCast_add, -Int.natCast_mul, -Int.natCast_ediv]
      refine ih (j + 1) i _ _ d (by omega) ?_ ?_ ?_ ?_ (hD.drop hjl hpj) (by omega) (by omega) hf2 hQ
      all_goals simp [h0, h1, h5, h6]
    | false =>
      rw [hpj] at hc
      obtain ⟨il, hil⟩ : ∃ x, x = Jtm.inLoop L88_2 := ⟨_, rfl⟩; rw [li_eq' il hil]
      simp -implicitDefEqProofs (disch := first | omega | with_unfolding_all exact eqR (Eq.refl _)) [nums, -getElem!_pos, -Int.natCast_add, -Int.natCast_mul, -Int.natCast_ediv, L88_2, S88_0, S88_1, h0, h1, h5, h6, hd, loadM, storeM, hat, hc, hin, hbn, storeZ]
      subst hil
      try simp -implicitDefEqProofs (disch := first | omega | with_unfolding_all exact eqR (Eq.refl _)) [nums, -getElem!_pos, -Int.natCast_add, -Int.natCast_mul, -Int.natCast_ediv]
      refine ih (j + 1) (i + 1) _ _ (d.setIfInBounds i l[j]) (by omega) ?_ ?_ ?_ ?_ (hD.keep hjl hpj) (by omega) (by omega) (hf2.trans (Wr.set (by show id < H.next + 1; omega)).toFx) hQ
      all_goals simp [h0, h1, h5, h6]
theorem call_88 {p : Mo → Bool} (hp : PredM g b o p) {id : Nat} {ex : Bool} {l : List Mo} {H : Heap} (hid : id < H.next) (hb : b < H.next) (hne : b ≠ id) (ho : H.obj b = o) (hd : H.obj id = .cells (tM.row l) none) (hl : l.length < 2 ^ 40) :
    Res (callI tab 50 [.sl id 0 l.length l.length ex 8, .fn g [] [.ptr b 0]] H) fun e H' => ∃ (d : Array Mo) (k : Nat), e = .sl id 0 k l.length ex 8 ∧ d.size = l.length ∧ k ≤ l.length ∧ d.toList.take k = l.filter (fun x => !p x) ∧ Wr H H' id (.cells (tM.arr d) none) := by
  refine .hide fun Q hQ => .enter tab_88 (by simp [AF88]) (.inl rfl) ?_
  have hr : Rd tM H.begin (.sl id 0 l.length l.length ex 8) l := Rd.live (t := tM) (id := id) (m := l) (rel := none) hd rfl (by simp) (Nat.le_refl _)
  have hc := call_97 hp (H := H.begin) hr hb ho hl
  have hf0 : Fx H.begin H.begin id (.cells (tM.arr l.toArray) none) := .refl hid hd
  by_cases hn : findI p 0 l = -1
  · rw [hn] at hc
    have hfl := findI_none p l 0 hn
    simp -implicitDefEqProofs (disch := first | omega | with_unfolding_all exact eqR (Eq.refl _)) [nums, -getElem!_pos, -Int.natCast_add, -Int.natCast_mul, -Int.natCast_ediv, AF88, hc]
    obtain ⟨H2, e, w⟩ := hf0.wrapA (H := H) (v := .sl id 0 l.length l.length ex 8) (by simp [AV.noNew]; exact hid)
    rw [e]
    exact .mk (hQ _ _ ⟨l.toArray, l.length, rfl, by simp, Nat.le_refl _, by rw [hfl]; simp, w⟩)
  · obtain ⟨j, hj, h1, h2, h3⟩ := findI_some p l 0 hn
    rw [Nat.zero_add] at h1
    rw [h1] at hc
    simp -implicitDefEqProofs (disch := first | omega | with_unfolding_all exact eqR (Eq.refl _)) [nums, -getElem!_pos, -Int.natCast_add, -Int.natCast_mul, -Int.natCast_ediv, AF88, hc, S88_4]
    refine l88_2 hp (H0 := H.begin) (id := id) (ex := ex) (l := l) hid hb hne ho rfl hl _ (j + 1) j _ _ l.toArray rfl ?_ ?_ ?_ ?_ ⟨by simp, ?_, ?_, by simp⟩ (by omega) (by omega) hf0 fun σ' H' d i q0 q5 hD hi hf => ?_
    any_goals (first | (simp; done) | skip)
    · rw [List.take_succ_eq_append_getElem hj, List.filter_append, h3]; simp [h2]
    · rw [List.take_succ_eq_append_getElem hj, List.filter_append, h3]; simp [h2]; omega
    · have hd' := hf.at
      have hln : (tM.arr d).length = d.size * 8 := tM.arr_length d
      have hsz := hD.size
      have hclr : clrA H' 8 Mo.zero.cells (.sl id (i * 8) (l.length - i) (l.length - i) ex 8) = some (undefA, H'.set id (.cells (tM.arr (d.toList.take i ++ List.replicate (l.length - i) Mo.zero).toArray) none)) := by
        rw [clr_sl (e := 8) (z := Mo.zero.cells) hd' (by omega) (by rw [hln]; omega) rfl, row_replicate']
        have := tM.row_puts d.toList (List.replicate (l.length - i) Mo.zero) i (by simp; omega)
        rw [show tM.e = 8 from rfl] at this
        have e : tM.arr d = tM.row d.toList := rfl
        rw [e, this, List.drop_of_length_le (by simp; omega)]
        simp [Ty.arr, kill_none]
      simp -implicitDefEqProofs (disch := first | omega | with_unfolding_all exact eqR (Eq.refl _)) [nums, -getElem!_pos, -Int.natCast_add, -Int.natCast_mul, -Int.natCast_ediv, S88_3, q0, q5, slc_from, slc_to, hclr]
      have hf2 := hf.trans (Wr.set (H := H') (id := id) (o := .cells (tM.arr (d.toList.take i ++ List.replicate (l.length - i) Mo.zero).toArray) none) (Nat.lt_of_lt_of_le hid hf.next)).toFx
      obtain ⟨H2, e, w⟩ := hf2.wrapA (H := H) (v := .sl id 0 i l.length ex 8) (by simp [AV.noNew]; exact hid)
      rw [e]
      refine .mk (hQ _ _ ⟨_, i, rfl, ?_, by omega, ?_, w⟩)
      · simp; omega
      · have ht := hD.take
        rw [List.take_of_length_le (Nat.le_refl _)] at ht
        rw [← ht]
        show List.take i (List.take i d.toList ++ _) = _
        rw [List.take_append_of_le_length (by simp; omega), List.take_take, Nat.min_self]
end
end Ytl
end Go.Mach
set_option linter.unusedSimpArgs false
set_option linter.unusedVariables false
set_option maxRecDepth 100000
namespace Go.Mach.Ytl
open Go.Mach
section
variable {s : List Jtm} {k : KF} {Q : AV → Heap → Prop}
def ck (d : Array Mo) : Nat → List Mo
  | 0 => []
  | j + 1 => ck d j ++ if j = 0 ∨ d[j]! ≠ d[j - 1]! then [d[j]!] else []
structure Cp (d0 : Array Mo) (q k : Nat) (d : Array Mo) : Prop where
  size : d.size = d0.size
  take : d.toList.take k = ck d0 q
  len : k = (ck d0 q).length
  lt : k < q
  rest : ∀ t, q ≤ t + 1 → d[t]! = d0[t]!
theorem take_snoc {d : Array Mo} {i : Nat} (h : i < d.size) : d.toList.take (i + 1) = d.toList.take i ++ [d[i]!] := by
  rw [List.take_succ_eq_append_getElem (by simpa using h)]
  simp [h]
theorem take_set {d : Array Mo} {i : Nat} {a : Mo} (h : i < d.size) : (d.setIfInBounds i a).toList.take (i + 1) = d.toList.take i ++ [a] := by
  rw [take_snoc (by simpa using h), Array.toList_setIfInBounds, List.take_set, List.set_eq_of_length_le (List.length_take_le _ _)]
  simp [h]
theorem Cp.drop {d0 d : Array Mo} {q k : Nat} (h : Cp d0 q k d) (hq : 0 < q) (he : d0[q]! = d0[q - 1]!) : Cp d0 (q + 1) k d where
  size := h.size
  take := by rw [ck, if_neg (by simp [he]; omega), List.append_nil]; exact h.take
  len := by rw [ck, if_neg (by simp [he]; omega), List.append_nil]; exact h.len
  lt := by have := h.lt; omega
  rest t ht := h.rest t (by omega)
theorem Cp.keep {d0 d : Array Mo} {q k : Nat} (h : Cp d0 q k d) (hs : q < d0.size) (he : d0[q]! ≠ d0[q - 1]!) : Cp d0 (q + 1) (k + 1) (d.setIfInBounds k d0[q]!) where
  size := by simp [h.size]
  take := by
    have := h.lt; have := h.size
    rw [ck, if_pos (.inr he), take_set (by omega), h.take]
  len := by rw [ck, if_pos (.inr he), List.length_append, ← h.len]; rfl
  lt := by have := h.lt; omega
  rest t ht := by
    have := h.lt
    rw [← h.rest t (by omega)]
    simp only [Array.getElem!_eq_getD, Array.getD_eq_getD_getElem?]
    rw [Array.getElem?_setIfInBounds_ne (by omega)]
theorem l92_2 {id n lo k0 : Nat} {ex : Bool} {d0 : Array Mo} (hn : n ≤ lo) (hlo : lo ≤ d0.size) (hs : d0.size < 2 ^ 40) : ∀ (m k2 i : Nat) (σ : Sig) (H : Heap) (d : Array Mo), n - k0 - k2 = m →
    σ 0 = .sl id 0 n lo ex 8 → σ 3 = .int .i64 (i : Nat) → σ 4 = .sl id (k0 * 8) (n - k0) (lo - k0) ex 8 → σ 5 = .int .i64 (k2 : Nat) → Cp d0 (k0 + k2) i d → 1 ≤ k2 → k0 + k2 ≤ n → id < H.next → H.obj id = .cells (tM.arr d) none →
    (∀ σ' H' d' i', σ' 0 = .sl id 0 n lo ex 8 → σ' 3 = .int .i64 (i' : Nat) → Cp d0 n i' d' → Wr H H' id (.cells (tM.arr d') none) → Res (ai (callI tab) s k .nrm σ' H') Q) →
    Res (li (callI tab) L92_2 (.inBlock 2 :: s) k σ H) Q := by
  intro m
  induction m with
  | zero =>
    intro k2 i σ H d hm h0 h3 h4 h5 hC h1 hk hid hd hQ
    have : k0 + k2 = n := by omega
    rw [this] at hC
    obtain ⟨il, hil⟩ : ∃ x, x = Jtm.inLoop L92_2 := ⟨_, rfl⟩; rw [li_eq' il hil]
    simp -implicitDefEqProofs (disch := first | omega | with_unfolding_all exact eqR (Eq.refl _)) [nums, -getElem!_pos, -Int.natCast_add, -Int.natCast_mul, -Int.natCast_ediv, L92_2, S92_0, S92_1, h0, h3, h4, h5]
    subst hil
    try simp -implicitDefEqProofs (disch := first | omega | with_unfolding_all exact eqR (Eq.refl _)) [nums, -getElem!_pos, -Int.natCast_add, -Int.natCast_mul, -Int.natCast_ediv]
    refine hQ _ _ d i ?_ ?_ hC (.refl hid hd) <;> simp [h0, h3]
  | succ m ih =>
    intro k2 i σ H d hm h0 h3 h4 h5 hC h1 hk hid hd hQ
    have hsz := hC.size
    have hlt := hC.lt
    have e1 := hC.rest (k0 + k2) (by omega)
    have e2 := hC.rest (k0 + (k2 - 1)) (by omega)
    have e3 : k0 + k2 - 1 = k0 + (k2 - 1) := by omega
    by_cases he : d0[k0 + k2]! = d0[k0 + (k2 - 1)]!
    · obtain ⟨il, hil⟩ : ∃ x, x = Jtm.inLoop L92_2 := ⟨_, rfl⟩; rw [li_eq' il hil]
      simp -implicitDefEqProofs (disch := first | omega | with_unfolding_all exact eqR (Eq.refl _)) [nums, -getElem!_pos, -Int.natCast_add, -Int.natCast_mul, -Int.natCast_ediv, L92_2, S92_0, S92_1, h0, h3, h4, h5, hd, ← Nat.add_mul, loadM, storeM, e1, e2, he]
      subst hil
      try simp -implicitDefEqProofs (disch := first | omega | with_unfolding_all exact eqR (Eq.refl _)) [nums, -getElem!_pos, -Int.natCast_add, -Int.natCast_mul, -Int.natCast_ediv]
      refine ih (k2 + 1) i _ _ d (by omega) ?_ ?_ ?_ ?_ (by rw [← Nat.add_assoc]; exact hC.drop (by omega) (by rw [e3]; exact he)) (by omega) (by omega) hid hd hQ
      all_goals simp [h0, h3, h4, h5]
    · obtain ⟨il, hil⟩ : ∃ x, x = Jtm.inLoop L92_2 := ⟨_, rfl⟩; rw [li_eq' il hil]
      simp -implicitDefEqProofs (disch := first | omega | with_unfolding_all exact eqR (Eq.refl _)) [nums, -getElem!_pos, -Int.natCast_add, -Int.natCast_mul, -Int.natCast_ediv, L92_2, S92_0, S92_1, h0, h3, h4, h5, hd, ← Nat.add_mul, loadM, storeM, e1, e2, he]
      subst hil
      try simp -implicitDefEqProofs (disch := first | omega | with_unfolding_all exact eqR (Eq.refl _)) [nums, -getElem!_pos, -Int.natCast_add, -Int.natCast_mul, -Int.natCast_ediv]
      refine ih (k2 + 1) (i + 1) _ _ (d.setIfInBounds i d0[k0 + k2]!) (by omega) ?_ ?_ ?_ ?_ (by rw [← Nat.add_assoc]; exact hC.keep (by omega) (by rw [e3]; exact he)) (by omega) (by omega) (by exact hid) (by simp) fun σ' H' d' i' q0 q3 hC' hw => hQ σ' H' d' i' q0 q3 hC' (.trans (.set hid) hw)
      all_goals simp [h0, h3, h4, h5]
theorem l92_7 {id n lo : Nat} {ex : Bool} {d : Array Mo} {H0 H : Heap} (hn : n ≤ lo) (hlo : lo ≤ d.size) (hs : d.size < 2 ^ 40) (hid : id < H.next) (hd : H.obj id = .cells (tM.arr d) none)
    (hQ : ∀ d' k H', d'.size = d.size → k ≤ n → d'.toList.take k = ck d n → Wr H H' id (.cells (tM.arr d') none) → Res (some (wrapA H0 (.sl id 0 k lo ex 8) H')) Q) : ∀ (m i : Nat) (σ : Sig), n - i = m → σ 0 = .sl id 0 n lo ex 8 → σ 3 = .int .i64 (i : Nat) → 1 ≤ i → i ≤ n → ck d i = d.toList.take i →
    Res (li (callI tab) L92_7 [.inBlock 0, .code S92_8] (fink [.tmp 2] false H0) σ H) Q := by
  intro m
  induction m with
  | zero =>
    intro i σ hm h0 h3 h1 hi hc
    have : i = n := by omega
    subst this
    obtain ⟨il, hil⟩ : ∃ x, x = Jtm.inLoop L92_7 := ⟨_, rfl⟩; rw [li_eq' il hil]
    simp -implicitDefEqProofs (disch := first | omega | with_unfolding_all exact eqR (Eq.refl _)) [nums, -getElem!_pos, -Int.natCast_add, -Int.natCast_mul, -Int.natCast_ediv, L92_7, S92_6, h0, h3]
    subst hil
    try simp -implicitDefEqProofs (disch := first | omega | with_unfolding_all exact eqR (Eq.refl _)) [nums, -getElem!_pos, -Int.natCast_add, -Int.natCast_mul, -Int.natCast_ediv, S92_8, h0]
    exact hQ d i H rfl (Nat.le_refl _) hc.symm (.refl hid hd)
  | succ m ih =>
    intro i σ hm h0 h3 h1 hi hc
    by_cases he : d[i]! = d[i - 1]!
    · have hlen : (ck d i).length = i := by rw [hc]; simp; omega
      have hC : Cp d (i + 1) i d := ⟨rfl, by rw [ck, if_neg (by simp [he]; omega), List.append_nil]; exact hc.symm, by rw [ck, if_neg (by simp [he]; omega), List.append_nil, hlen], by omega, fun _ _ => rfl⟩
      obtain ⟨il, hil⟩ : ∃ x, x = Jtm.inLoop L92_7 := ⟨_, rfl⟩; rw [li_eq' il hil]
      simp -implicitDefEqProofs (disch := first | omega | with_unfolding_all exact eqR (Eq.refl _)) [nums, -getElem!_pos, -Int.natCast_add, -Int.natCast_mul, -Int.natCast_ediv, L92_7, S92_6, S92_4, h0, h3, hd, loadM, he, slc_from]
      refine l92_2 (id := id) (n := n) (lo := lo) (k0 := i) (ex := ex) (d0 := d) hn hlo hs _ 1 i _ _ d rfl ?_ ?_ ?_ ?_ hC (Nat.le_refl _) (by omega) hid hd fun σ' H' d' i' q0 q3 hC' hw => ?_
      any_goals (first | (simp [h0, h3]; done) | skip)
      have hsz := hC'.size
      have hlt := hC'.lt
      have hd' := hw.at
      have hln : (tM.arr d').length = d'.size * 8 := tM.arr_length d'
      have hclr : clrA H' 8 Mo.zero.cells (.sl id (i' * 8) (n - i') (lo - i') ex 8) = some (undefA, H'.set id (.cells (tM.arr (d'.toList.take i' ++ List.replicate (n - i') Mo.zero ++ d'.toList.drop (i' + (n - i'))).toArray) none)) := by
        rw [clr_sl (e := 8) (z := Mo.zero.cells) hd' (by omega) (by rw [hln]; omega) rfl, row_replicate']
        have := tM.row_puts d'.toList (List.replicate (n - i') Mo.zero) i' (by simp; omega)
        rw [show tM.e = 8 from rfl, List.length_replicate] at this
        have e : tM.arr d' = tM.row d'.toList := rfl
        rw [e, this]
        simp [Ty.arr, kill_none]
      simp -implicitDefEqProofs (disch := first | omega | with_unfolding_all exact eqR (Eq.refl _)) [nums, -getElem!_pos, -Int.natCast_add, -Int.natCast_mul, -Int.natCast_ediv, S92_3, q0, q3, slc_from, slc_to, hclr]
      subst hil
      try simp -implicitDefEqProofs (disch := first | omega | with_unfolding_all exact eqR (Eq.refl _)) [nums, -getElem!_pos, -Int.natCast_add, -Int.natCast_mul, -Int.natCast_ediv]
      refine hQ _ i' _ ?_ (by omega) ?_ (hw.trans (.set (by rw [hw.nxt]; exact hid)))
      · simp; omega
      · rw [← hC'.take]
        show List.take i' (d'.toList.take i' ++ (List.replicate (n - i') Mo.zero ++ d'.toList.drop n)) = _
        rw [List.take_append_of_le_length (by simp; omega), List.take_take, Nat.min_self]
    · obtain ⟨il, hil⟩ : ∃ x, x = Jtm.inLoop L92_7 := ⟨_, rfl⟩; rw [li_eq' il hil]
      simp -implicitDefEqProofs (disch := first | omega | with_unfolding_all exact eqR (Eq.refl _)) [nums, -getElem!_pos, -Int.natCast_add, -Int.natCast_mul, -Int.natCast_ediv, L92_7, S92_6, S92_5, h0, h3, hd, loadM, he]
      subst hil
      try simp -implicitDefEqProofs (disch := first | omega | with_unfolding_all exact eqR (Eq.refl _)) [nums, -getElem!_pos, -Int.natCast_add, -Int.natCast_mul, -Int.natCast_ediv]
      refine ih (i + 1) _ (by omega) ?_ ?_ (by omega) (by omega) (by rw [ck, if_pos (.inr he), hc, take_snoc (by omega)])
      all_goals simp [h0, h3]
theorem call_92 {id n lo : Nat} {ex : Bool} {d : Array Mo} {H : Heap} (hn : n ≤ lo) (hlo : lo ≤ d.size) (hs : d.size < 2 ^ 40) (hid : id < H.next) (hd : H.obj id = .cells (tM.arr d) none) :
    Res (callI tab 54 [.sl id 0 n lo ex 8] H) fun e H' => ∃ (d' : Array Mo) (k : Nat), e = .sl id 0 k lo ex 8 ∧ d'.size = d.size ∧ k ≤ n ∧ d'.toList.take k = ck d n ∧ Wr H H' id (.cells (tM.arr d') none) := by
  refine .hide fun Q hQ => .enter tab_92 (by simp [AF92]) (.inl rfl) ?_
  have hfin : ∀ d' k H', d'.size = d.size → k ≤ n → d'.toList.take k = ck d n → Wr H.begin H' id (.cells (tM.arr d') none) → Res (some (wrapA H (.sl id 0 k lo ex 8) H')) Q := fun d' k H' e1 e2 e3 hw => by
    obtain ⟨H2, e, w⟩ := hw.toFx.wrapA (H := H) (v := .sl id 0 k lo ex 8) (by simp [AV.noNew]; exact hid)
    rw [e]
    exact .mk (hQ _ _ ⟨d', k, rfl, e1, e2, e3, w⟩)
  by_cases h2 : n < 2
  · simp -implicitDefEqProofs (disch := first | omega | with_unfolding_all exact eqR (Eq.refl _)) [nums, -getElem!_pos, -Int.natCast_add, -Int.natCast_mul, -Int.natCast_ediv, AF92, S92_9]
    refine hfin d n H.begin rfl (Nat.le_refl _) ?_ (.refl hid hd)
    have : n = 0 ∨ n = 1 := by omega
    rcases this with rfl | rfl
    · rfl
    · rw [take_snoc (by omega)]; simp [ck]
  · simp -implicitDefEqProofs (disch := first | omega | with_unfolding_all exact eqR (Eq.refl _)) [nums, -getElem!_pos, -Int.natCast_add, -Int.natCast_mul, -Int.natCast_ediv, AF92, S92_9]
    refine l92_7 (id := id) (n := n) (lo := lo) (ex := ex) (d := d) (H0 := H) (H := H.begin) hn hlo hs hid hd hfin _ 1 _ rfl ?_ ?_ (Nat.le_refl _) (by omega) (by rw [take_snoc (by omega)]; simp [ck])
    all_goals simp
end
end Go.Mach.Ytl
