/-
  Copying a list, deleting from it. By an AI agent.
-/
import Derived.Test.YtlbihaiejbpjoaaNk
set_option linter.unusedSimpArgs false
set_option linter.unusedVariables false
set_option maxRecDepth 100000
namespace Go.Mach
theorem heapA_app {f : AOpd → AV} {H : Heap} {e bs : Nat} {x y : AOpd} : heapA f H (.app e bs x y) = appA H e bs (f x) (f y) := rfl
theorem heapA_bslice0 {f : AOpd → AV} {H : Heap} {e : Nat} : heapA f H (.bslice 0 e [] []) = some (.vec 0 true [], H) := rfl
def clrA (H : Heap) (e : Nat) (z : List AV) (v : AV) : R := heapA (fun _ => v) H (.clr e z (.t 0))
theorem heapA_clr {f : AOpd → AV} {H : Heap} {e : Nat} {z : List AV} {x : AOpd} : heapA f H (.clr e z x) = clrA H e z (f x) := rfl
theorem pureA_slc {f : AOpd → AV} {H : Heap} {k : SK} {e : Nat} {x : AOpd} {lo hi mx : Option AOpd} : pureA f H (.slc k e x lo hi mx) = slcA H k e (f x) (lo.map f) (hi.map f) (mx.map f) := rfl
attribute [simp ↓ high] pureA_slc
attribute [simp] heapA_app heapA_bslice0 heapA_clr

/-- s[i:] -/
theorem slc_from {H : Heap} {e id off len lo i : Nat} {ex : Bool} {k : IntKind} (h : i ≤ len) (hl : len ≤ lo) (hi : i < lo) : slcA H .sli e (.sl id off len lo ex e) (some (.int k i)) none none = some (.sl id (off + i * e) (len - i) (lo - i) ex e) := by
  simp only [slcA, bnds, bnd, if_true]
  rw [if_pos (by omega)]
  simp only [Int.toNat_natCast]
  rw [if_pos hl, if_neg (by omega)]
/-- s[:i] -/
theorem slc_to {H : Heap} {e id len lo i : Nat} {ex : Bool} {k : IntKind} (h : i ≤ lo) : slcA H .sli e (.sl id 0 len lo ex e) none (some (.int k i)) none = some (.sl id 0 i lo ex e) := by
  simp only [slcA, bnds, bnd, if_true]
  rw [if_pos (by omega)]
  simp only [Int.toNat_natCast]
  rw [if_pos h, if_neg (by omega)]
  simp
theorem clr_sl {H : Heap} {e id off n lo : Nat} {ex : Bool} {z ds : List AV} {rel : Option Nat} (ho : H.obj id = .cells ds rel) (hn : n ≠ 0) (hl : off + n * e ≤ ds.length) (hz : z.length = e) : clrA H e z (.sl id off n lo ex e) = some (undefA, (H.kill rel).set id (.cells (put ds off (List.replicate n z).flatten) none)) := by
  simp only [clrA, heapA, if_true]
  rw [if_neg hn, ho]
  simp only [hl, hz, and_self, if_true]

theorem Fx.of_new {H H' : Heap} {id : Nat} {o o2 : AObj} (a : Fx H H' id o) : Fx H (H'.new o2) id o := a.new

namespace Ytl
theorem row_replicate (n : Nat) : (List.replicate n [AV.int .i64 0, .int .i64 0, .int .i64 0, .int .i64 0, .int .i64 0, .int .i64 0, .int .i64 0, .int .i64 0]).flatten = tM.row (List.replicate n Mo.zero) := by
  induction n with
  | zero => rfl
  | succ n ih => rw [List.replicate_succ, List.replicate_succ, List.flatten_cons, ih]; rfl
theorem row_replicate' (n : Nat) : (List.replicate n Mo.zero.cells).flatten = tM.row (List.replicate n Mo.zero) := row_replicate n

section
variable {g b : Nat} {o : AObj} {s : List Jtm} {k : KF} {Q : AV → Heap → Prop}

theorem app_vec0 {H : Heap} {l : List Mo} {ex : Bool} (hl : l.length < 2 ^ 16) (hne : l ≠ []) : appA H 8 64 (.vec 0 true []) (.vec l.length ex (tM.row l)) = some (.sl H.next 0 l.length l.length false 8, H.new (.cells (tM.row l) none)) := by
  have h1 : (tM.row l).length = l.length * 8 := tM.row_length l
  have h2 : l.length ≠ 0 := by simpa using hne
  simp only [appA, srcA, h1, if_true]
  rw [if_neg h2, if_pos ⟨by omega, by simp⟩]
  simp
theorem call_87n {H : Heap} : callI tab 87 [.nils] H = some (.nils, H) := by
  refine callI_enter tab_87 (by simp [AF87]) (.inl rfl) ?_
  simp -implicitDefEqProofs (disch := first | omega | with_unfolding_all exact eqR (Eq.refl _)) [nums, -getElem!_pos, -Int.natCast_add, -Int.natCast_mul, -Int.natCast_ediv, AF87, S87_0, eqNil]
theorem call_87v {ex : Bool} {H : Heap} : callI tab 87 [.vec 0 ex []] H = some (.vec 0 true [], H) := by
  refine callI_enter tab_87 (by simp [AF87]) (.inl rfl) ?_
  simp -implicitDefEqProofs (disch := first | omega | with_unfolding_all exact eqR (Eq.refl _)) [nums, -getElem!_pos, -Int.natCast_add, -Int.natCast_mul, -Int.natCast_ediv, AF87, S87_0, eqNil, appA, srcA]
theorem call_87 {ex : Bool} {l : List Mo} {H : Heap} (hl : l.length < 2 ^ 16) (hne : l ≠ []) : callI tab 87 [.vec l.length ex (tM.row l)] H = some (.sl H.next 0 l.length l.length false 8, H.new (.cells (tM.row l) none)) := by
  refine callI_enter tab_87 (by simp [AF87]) (.inl rfl) ?_
  simp -implicitDefEqProofs (disch := first | omega | with_unfolding_all exact eqR (Eq.refl _)) [nums, -getElem!_pos, -Int.natCast_add, -Int.natCast_mul, -Int.natCast_ediv, AF87, S87_0, eqNil, app_vec0 hl hne]
  unfold wrapA
  have h : (AV.sl H.next 0 l.length l.length false 8).noNew H.next 4 = false := by simp [AV.noNew]
  show (if (AV.sl H.next 0 l.length l.length false 8).noNew H.next 4 = true then _ else _) = _
  rw [h]
  rfl

theorem storeZ {H : Heap} {m a : Mo} {rel : Option Nat} {j : Nat} : stO H 8 j 0 (.cells m.cells rel) (some a.cells) = some ((H.kill rel).set j (.cells a.cells none)) := by
  rw [stO_some, if_pos ⟨rfl, Nat.le_refl _⟩, put_mono rfl]

/-! ### Deleting -/
/-- Where deleting stands: j elements are looked at. -/
structure Del (p : Mo → Bool) (l : List Mo) (j i : Nat) (d : Array Mo) : Prop where
  size : d.size = l.length
  take : d.toList.take i = (l.take j).filter fun x => !p x
  len : i = ((l.take j).filter fun x => !p x).length
  rest : d.toList.drop j = l.drop j
theorem Del.le {p : Mo → Bool} {l : List Mo} {j i : Nat} {d : Array Mo} (h : Del p l j i d) : i ≤ j ∧ i ≤ l.length := by
  have := List.length_filter_le (fun x => !p x) (l.take j)
  have h2 : (l.take j).length ≤ j := List.length_take_le _ _
  have h3 : (l.take j).length ≤ l.length := List.length_take_le' _ _
  have := h.len
  omega
theorem Del.at {p : Mo → Bool} {l : List Mo} {j i : Nat} {d : Array Mo} (h : Del p l j i d) (hj : j < l.length) : d[j]! = l[j] := by
  have hd : j < d.size := by rw [h.size]; exact hj
  have h1 : d.toList[j]'(by simpa using hd) = l[j] := by
    have := congrArg (fun x => x[0]?) h.rest
    simp only [List.getElem?_drop, Nat.add_zero] at this
    rw [List.getElem?_eq_getElem (by simpa using hd), List.getElem?_eq_getElem hj] at this
    exact Option.some.inj this
  rw [← h1]; simp [hd]
theorem Del.drop {p : Mo → Bool} {l : List Mo} {j i : Nat} {d : Array Mo} (h : Del p l j i d) (hj : j < l.length) (hp : p l[j] = true) : Del p l (j + 1) i d where
  size := h.size
  take := by rw [h.take, List.take_succ_eq_append_getElem hj, List.filter_append]; simp [hp]
  len := by rw [List.take_succ_eq_append_getElem hj, List.filter_append]; simp [hp]; exact h.len
  rest := by rw [← List.drop_drop, h.rest, List.drop_drop]
theorem Del.keep {p : Mo → Bool} {l : List Mo} {j i : Nat} {d : Array Mo} (h : Del p l j i d) (hj : j < l.length) (hp : p l[j] = false) : Del p l (j + 1) (i + 1) (d.setIfInBounds i l[j]) where
  size := by simp [h.size]
  take := by
    have hi : i < d.toList.length := by have := h.le; have := h.size; simp; omega
    rw [List.take_succ_eq_append_getElem hj, List.filter_append, ← h.take, Array.toList_setIfInBounds]
    rw [List.take_succ_eq_append_getElem (by simpa using hi), List.take_set, List.set_eq_of_length_le (List.length_take_le _ _)]
    simp [hp]
  len := by rw [List.take_succ_eq_append_getElem hj, List.filter_append]; simp [hp]; exact h.len
  rest := by
    have := h.le
    rw [Array.toList_setIfInBounds, List.drop_set_of_lt (by omega), ← List.drop_drop, h.rest, List.drop_drop]
theorem findI_none {α : Type} (p : α → Bool) (l : List α) : ∀ i, findI p i l = -1 → l.filter (fun x => !p x) = l := by
  induction l with
  | nil => intro i _; rfl
  | cons a l ih =>
    intro i h
    simp only [findI] at h
    split at h
    · omega
    · rename_i hp
      rw [List.filter_cons, if_pos (by simp [hp]), ih _ h]
theorem findI_some {α : Type} (p : α → Bool) (l : List α) : ∀ i, findI p i l ≠ -1 → ∃ j, ∃ h : j < l.length, findI p i l = ((i + j : Nat) : Int) ∧ p l[j] = true ∧ (l.take j).filter (fun x => !p x) = l.take j := by
  induction l with
  | nil => intro i h; exact (h rfl).elim
  | cons a l ih =>
    intro i h
    simp only [findI] at h ⊢
    by_cases hp : p a = true
    · rw [if_pos hp]
      exact ⟨0, by simp, rfl, hp, rfl⟩
    · rw [if_neg hp] at h ⊢
      obtain ⟨j, hj, h1, h2, h3⟩ := ih _ h
      refine ⟨j + 1, by simp; omega, by rw [h1]; omega, h2, ?_⟩
      rw [List.take_succ_cons, List.filter_cons, if_pos (by simp [hp]), h3]

theorem l88_2 {p : Mo → Bool} (hp : PredM g b o p) {id : Nat} {ex : Bool} {l : List Mo} {H0 : Heap} (hid : id < H0.next) (hb0 : b < H0.next) (hne : b ≠ id) (ho : H0.obj b = o) (hbase : H0.base = H0.next) (hl : l.length < 2 ^ 40) : ∀ (m j i : Nat) (σ : Sig) (H : Heap) (d : Array Mo), l.length - j = m →
    σ 0 = .sl id 0 l.length l.length ex 8 → σ 1 = .fn g [] [.ptr b 0] → σ 5 = .int .i64 (i : Nat) → σ 6 = .int .i64 (j : Nat) → Del p l j i d → j ≤ l.length → i < j → Fx H0 H id (.cells (tM.arr d) none) →
    (∀ σ' H' d' i', σ' 0 = .sl id 0 l.length l.length ex 8 → σ' 5 = .int .i64 (i' : Nat) → Del p l l.length i' d' → i' < l.length → Fx H0 H' id (.cells (tM.arr d') none) → Res (ai (callI tab) s k .nrm σ' H') Q) →
    Res (li (callI tab) L88_2 (.inBlock 0 :: s) k σ H) Q := by
  intro m
  induction m with
  | zero =>
    intro j i σ H d hm h0 h1 h5 h6 hD hj hi hf hQ
    have : j = l.length := by omega
    subst this
    obtain ⟨il, hil⟩ : ∃ x, x = Jtm.inLoop L88_2 := ⟨_, rfl⟩; rw [li_eq' il hil]
    simp -implicitDefEqProofs (disch := first | omega | with_unfolding_all exact eqR (Eq.refl _)) [nums, -getElem!_pos, -Int.natCast_add, -Int.natCast_mul, -Int.natCast_ediv, L88_2, S88_0, S88_1, h0, h1, h5, h6]
    subst hil
    try simp -implicitDefEqProofs (disch := first | omega | with_unfolding_all exact eqR (Eq.refl _)) [nums, -getElem!_pos, -Int.natCast_add, -Int.natCast_mul, -Int.natCast_ediv]
    refine hQ _ _ d i ?_ ?_ hD hi hf <;> simp [h0, h5]
  | succ m ih =>
    intro j i σ H d hm h0 h1 h5 h6 hD hj hi hf hQ
    have hjl : j < l.length := by omega
    have hat := hD.at hjl
    have hsz := hD.size
    have hle := hD.le
    have hd := hf.at
    have hn := hf.next
    have hbn : b ≠ H.next := by omega
    have hin : id ≠ H.next := by omega
    have hob : H.obj b = o := (hf.ne hb0 hne).trans ho
    have hc := hp l[j] ((H.new (.cells Mo.zero.cells none)).set H.next (.cells l[j].cells none)) (by show b < H.next + 1; omega) (by simp [hbn, hob])
    have hf2 : Fx H0 ((H.new (.cells Mo.zero.cells none)).set H.next (.cells l[j].cells none)) id (.cells (tM.arr d) none) := hf.new.own (Wr.set (by show H.next < H.next + 1; omega)).toFx hn (by rw [hbase]; exact hn)
    cases hpj : p l[j] with
    | true =>
      rw [hpj] at hc
      obtain ⟨il, hil⟩ : ∃ x, x = Jtm.inLoop L88_2 := ⟨_, rfl⟩; rw [li_eq' il hil]
      simp -implicitDefEqProofs (disch := first | omega | with_unfolding_all exact eqR (Eq.refl _)) [nums, -getElem!_pos, -Int.natCast_add, -Int.natCast_mul, -Int.natCast_ediv, L88_2, S88_0, S88_1, h0, h1, h5, h6, hd, loadM, storeM, hat, hc, hin, hbn, storeZ]
      subst hil
      try simp -implicitDefEqProofs (disch := first | omega | with_unfolding_all exact eqR (Eq.refl _)) [nums, -getElem!_pos, -Int.natCast_add, -Int.natCast_mul, -Int.natCast_ediv]
      refine ih (j + 1) i _ _ d (by omega) ?_ ?_ ?_ ?_ (hD.drop hjl hpj) (by omega) (by omega) hf2 hQ
      all_goals simp [h0, h1, h5, h6]
    | false =>
      rw [hpj] at hc
      obtain ⟨il, hil⟩ : ∃ x, x = Jtm.inLoop L88_2 := ⟨_, rfl⟩; rw [li_eq' il hil]
      simp -implicitDefEqProofs (disch := first | omega | with_unfolding_all exact eqR (Eq.refl _)) [nums, -getElem!_pos, -Int.natCast_add, -Int.natCast_mul, -Int.natCast_ediv, L88_2, S88_0, S88_1, h0, h1, h5, h6, hd, loadM, storeM, hat, hc, hin, hbn, storeZ]
      subst hil
      try simp -implicitDefEqProofs (disch := first | omega | with_unfolding_all exact eqR (Eq.refl _)) [nums, -getElem!_pos, -Int.natCast_add, -Int.natCast_mul, -Int.natCast_ediv]
      refine ih (j + 1) (i + 1) _ _ (d.setIfInBounds i l[j]) (by omega) ?_ ?_ ?_ ?_ (hD.keep hjl hpj) (by omega) (by omega) (hf2.trans (Wr.set (by show id < H.next + 1; omega)).toFx) hQ
      all_goals simp [h0, h1, h5, h6]
/-- Deleting from a live list. -/
theorem call_88 {p : Mo → Bool} (hp : PredM g b o p) {id : Nat} {ex : Bool} {l : List Mo} {H : Heap} (hid : id < H.next) (hb : b < H.next) (hne : b ≠ id) (ho : H.obj b = o) (hd : H.obj id = .cells (tM.row l) none) (hl : l.length < 2 ^ 40) :
    Res (callI tab 88 [.sl id 0 l.length l.length ex 8, .fn g [] [.ptr b 0]] H) fun e H' => ∃ (d : Array Mo) (k : Nat), e = .sl id 0 k l.length ex 8 ∧ d.size = l.length ∧ k ≤ l.length ∧ d.toList.take k = l.filter (fun x => !p x) ∧ Wr H H' id (.cells (tM.arr d) none) := by
  refine .hide fun Q hQ => .enter tab_88 (by simp [AF88]) (.inl rfl) ?_
  have hr : Rd tM H.begin (.sl id 0 l.length l.length ex 8) l := Rd.live (t := tM) (id := id) (m := l) (rel := none) hd rfl (by simp) (Nat.le_refl _)
  have hc := call_97 hp (H := H.begin) hr hb ho hl
  have hf0 : Fx H.begin H.begin id (.cells (tM.arr l.toArray) none) := .refl hid hd
  by_cases hn : findI p 0 l = -1
  · rw [hn] at hc
    have hfl := findI_none p l 0 hn
    simp -implicitDefEqProofs (disch := first | omega | with_unfolding_all exact eqR (Eq.refl _)) [nums, -getElem!_pos, -Int.natCast_add, -Int.natCast_mul, -Int.natCast_ediv, AF88, hc]
    obtain ⟨H2, e, w⟩ := hf0.wrapA (H := H) (v := .sl id 0 l.length l.length ex 8) (by simp [AV.noNew]; exact hid)
    rw [e]
    exact .mk (hQ _ _ ⟨l.toArray, l.length, rfl, by simp, Nat.le_refl _, by rw [hfl]; simp, w⟩)
  · obtain ⟨j, hj, h1, h2, h3⟩ := findI_some p l 0 hn
    rw [Nat.zero_add] at h1
    rw [h1] at hc
    simp -implicitDefEqProofs (disch := first | omega | with_unfolding_all exact eqR (Eq.refl _)) [nums, -getElem!_pos, -Int.natCast_add, -Int.natCast_mul, -Int.natCast_ediv, AF88, hc, S88_4]
    refine l88_2 hp (H0 := H.begin) (id := id) (ex := ex) (l := l) hid hb hne ho rfl hl _ (j + 1) j _ _ l.toArray rfl ?_ ?_ ?_ ?_ ⟨by simp, ?_, ?_, by simp⟩ (by omega) (by omega) hf0 fun σ' H' d i q0 q5 hD hi hf => ?_
    any_goals (first | (simp; done) | skip)
    · rw [List.take_succ_eq_append_getElem hj, List.filter_append, h3]; simp [h2]
    · rw [List.take_succ_eq_append_getElem hj, List.filter_append, h3]; simp [h2]; omega
    · have hd' := hf.at
      have hln : (tM.arr d).length = d.size * 8 := tM.arr_length d
      have hsz := hD.size
      have hclr : clrA H' 8 Mo.zero.cells (.sl id (i * 8) (l.length - i) (l.length - i) ex 8) = some (undefA, H'.set id (.cells (tM.arr (d.toList.take i ++ List.replicate (l.length - i) Mo.zero).toArray) none)) := by
        rw [clr_sl (e := 8) (z := Mo.zero.cells) hd' (by omega) (by rw [hln]; omega) rfl, row_replicate']
        have := tM.row_puts d.toList (List.replicate (l.length - i) Mo.zero) i (by simp; omega)
        rw [show tM.e = 8 from rfl] at this
        have e : tM.arr d = tM.row d.toList := rfl
        rw [e, this, List.drop_of_length_le (by simp; omega)]
        simp [Ty.arr, kill_none]
      simp -implicitDefEqProofs (disch := first | omega | with_unfolding_all exact eqR (Eq.refl _)) [nums, -getElem!_pos, -Int.natCast_add, -Int.natCast_mul, -Int.natCast_ediv, S88_3, q0, q5, slc_from, slc_to, hclr]
      have hf2 := hf.trans (Wr.set (H := H') (id := id) (o := .cells (tM.arr (d.toList.take i ++ List.replicate (l.length - i) Mo.zero).toArray) none) (Nat.lt_of_lt_of_le hid hf.next)).toFx
      obtain ⟨H2, e, w⟩ := hf2.wrapA (H := H) (v := .sl id 0 i l.length ex 8) (by simp [AV.noNew]; exact hid)
      rw [e]
      refine .mk (hQ _ _ ⟨_, i, rfl, ?_, by omega, ?_, w⟩)
      · simp; omega
      · have ht := hD.take
        rw [List.take_of_length_le (Nat.le_refl _)] at ht
        rw [← ht]
        show List.take i (List.take i d.toList ++ _) = _
        rw [List.take_append_of_le_length (by simp; omega), List.take_take, Nat.min_self]
end
end Ytl
end Go.Mach
