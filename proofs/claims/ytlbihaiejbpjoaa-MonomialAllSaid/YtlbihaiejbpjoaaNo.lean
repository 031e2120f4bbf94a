/-
  Lists that grow by append. By an AI agent.
-/
import Derived.Test.YtlbihaiejbpjoaaNn
set_option linter.unusedSimpArgs false
set_option linter.unusedVariables false
set_option maxRecDepth 100000
namespace Go.Mach
/-- The run has changed nothing that was there at its start. -/
structure Ow (H0 H : Heap) : Prop where
  obj : ∀ i, i < H0.next → H.obj i = H0.obj i
  next : H0.next ≤ H.next
  base : H.base = H0.base
  ws : H.ws = H0.ws
theorem Ow.refl (H : Heap) : Ow H H := ⟨fun _ _ => rfl, Nat.le_refl _, rfl, rfl⟩
theorem Ow.new {H0 H : Heap} (h : Ow H0 H) (o : AObj) : Ow H0 (H.new o) where
  obj i hi := by
    have := h.next
    simp only [Heap.new, upd]; rw [if_neg (by omega), h.obj i hi]
  next := by have := h.next; simp only [Heap.new]; omega
  base := h.base
  ws := h.ws
theorem Ow.set {H0 H : Heap} (h : Ow H0 H) {id : Nat} (o : AObj) (hid : H0.next ≤ id) (hb : H0.base ≤ H0.next) : Ow H0 (H.set id o) where
  obj i hi := by simp only [Heap.set, upd]; rw [if_neg (by omega), h.obj i hi]
  next := h.next
  base := h.base
  ws := by
    have := h.base
    simp only [Heap.set]; rw [if_neg (by omega)]; exact h.ws

/-- A list that a run builds: not begun, or in an object of its own. -/
inductive Acc {α : Type} (t : Ty α) (H0 H : Heap) : AV → List α → Prop
  | nil : Acc t H0 H .nils []
  | vec : Acc t H0 H (.vec 0 true []) []
  | live (id : Nat) (rel : Option Nat) (l : List α) (n : Nat) : n = l.length → H.obj id = .cells (t.row l) rel → H0.next ≤ id → id < H.next → (∀ r, rel = some r → H0.next ≤ r ∧ r ≠ id) → l ≠ [] → Acc t H0 H (.sl id 0 n n false t.e) l

theorem kill_ow {H0 H : Heap} {rel : Option Nat} (h : Ow H0 H) (hr : ∀ r, rel = some r → H0.next ≤ r) (hb : H0.base ≤ H0.next) : Ow H0 (H.kill rel) ∧ (H.kill rel).next = H.next ∧ ∀ i, rel ≠ some i → (H.kill rel).obj i = H.obj i := by
  cases rel with
  | none => exact ⟨h, rfl, fun _ _ => rfl⟩
  | some r => exact ⟨h.set _ (hr r rfl) hb, rfl, fun i hi => by simp only [Heap.kill, Heap.set, upd]; rw [if_neg (fun e => hi (by rw [e]))]⟩

theorem Ow.trans {H0 H1 H2 : Heap} (a : Ow H0 H1) (b : Ow H1 H2) : Ow H0 H2 where
  obj i hi := (b.obj i (Nat.lt_of_lt_of_le hi a.next)).trans (a.obj i hi)
  next := Nat.le_trans a.next b.next
  base := b.base.trans a.base
  ws := b.ws.trans a.ws
theorem Acc.weaken {α : Type} {t : Ty α} {H0 H1 H : Heap} {v : AV} {l : List α} (h : Acc t H1 H v l) (hn : H0.next ≤ H1.next) : Acc t H0 H v l := by
  cases h with
  | nil => exact .nil
  | vec => exact .vec
  | live id rel l n hnl hobj hid hidn hrel hne => exact .live id rel l n hnl hobj (by omega) hidn (fun r h => ⟨Nat.le_trans hn (hrel r h).1, (hrel r h).2⟩) hne
/-- One append. -/
theorem Acc.app {α : Type} {t : Ty α} {H0 H : Heap} {v : AV} {l m : List α} {bs : Nat} {ex : Bool} {n : Nat} (h : Acc t H0 H v l) (ho : Ow H0 H) (hb : H0.base ≤ H0.next) (hm : m ≠ []) (hn : n = m.length) (hs : (l.length + m.length) * bs ≤ 2 ^ 45) :
    ∃ v' H', appA H t.e bs v (.vec n ex (t.row m)) = some (v', H') ∧ Acc t H0 H' v' (l ++ m) ∧ Ow H0 H' := by
  subst hn
  have hlen : (t.row m).length = m.length * t.e := t.row_length m
  have hm0 : m.length ≠ 0 := by simpa using hm
  have hsrc : srcA H t.e (.vec m.length ex (t.row m)) = some (m.length, t.row m) := by simp [srcA, hlen]
  cases h with
  | nil =>
    refine ⟨.sl H.next 0 m.length m.length false t.e, H.new (.cells (t.row m) none), ?_, .live H.next none ([] ++ m) m.length (by simp) ?_ (ho.next) (by show H.next < H.next + 1; omega) (fun r h => by cases h) (by simpa using hm), ho.new _⟩
    · simp only [appA, hsrc]
      rw [if_neg hm0, if_pos (by simpa using hs)]
    · simp [Heap.new, upd]
  | vec =>
    refine ⟨.sl H.next 0 m.length m.length false t.e, H.new (.cells (t.row m) none), ?_, .live H.next none ([] ++ m) m.length (by simp) ?_ (ho.next) (by show H.next < H.next + 1; omega) (fun r h => by cases h) (by simpa using hm), ho.new _⟩
    · simp only [appA, hsrc]
      rw [if_neg hm0, if_pos ⟨by simpa using hs, by simp⟩]
      simp
    · simp [Heap.new, upd]
  | live id rel l n hnl hobj hid hidn hrel hne =>
    subst hnl
    have hl : (t.row l).length = l.length * t.e := t.row_length l
    have hk := kill_ow ho (fun r h => (hrel r h).1) hb
    have hne2 : id ≠ H.next := by omega
    refine ⟨.sl H.next 0 (l.length + m.length) (l.length + m.length) false t.e, ((H.kill rel).set id (.cells (t.row l) (some H.next))).new (.cells (t.row l ++ t.row m) (some id)), ?_, ?_, (hk.1.set _ hid hb).new _⟩
    · simp only [appA, hsrc]
      rw [if_neg hm0]
      simp only [ne_eq, not_true_eq_false, if_false]
      rw [hobj]
      simp only
      rw [if_neg (by omega), if_pos hs]
      simp [hl]
    · have hnx : ((H.kill rel).set id (.cells (t.row l) (some H.next))).next = H.next := hk.2.1
      refine .live H.next (some id) (l ++ m) _ (by simp) ?_ ho.next ?_ (fun r h => ?_) (by simp [hne])
      · simp only [Heap.new, upd]
        rw [if_pos (by rw [hnx]), t.row_append]
      · show H.next < ((H.kill rel).set id (.cells (t.row l) (some H.next))).next + 1
        rw [hnx]; omega
      · cases h; exact ⟨hid, hne2⟩

theorem Acc.lenA {α : Type} {t : Ty α} {H0 H H' : Heap} {v : AV} {l : List α} (h : Acc t H0 H v l) : lenA H' 1 v = some (.int .i64 l.length) := by
  cases h with
  | nil => rfl
  | vec => rfl
  | live id rel l n hn => subst hn; rfl
/-- The list, frozen at the end of the run. -/
theorem Acc.frz {α : Type} {t : Ty α} {H0 H : Heap} {v : AV} {l : List α} (h : Acc t H0 H v l) (ho : Ow H0 H) (hb : H0.base ≤ H0.next) {b : Nat} (hbn : b ≤ H0.next) (m : Nat) : ∃ v' H', frz b (m + 1) H v = some (v', H') ∧ ML t v' l ∧ Ow H0 H' := by
  cases h with
  | nil => exact ⟨.nils, H, rfl, .inl ⟨rfl, rfl⟩, ho⟩
  | vec => exact ⟨.vec 0 true [], H, rfl, .inr ⟨true, rfl⟩, ho⟩
  | live id rel l n hn hobj hid hidn hrel hne =>
    subst hn
    have hl : (t.row l).length = l.length * t.e := t.row_length l
    have hk := kill_ow ho (fun r h => (hrel r h).1) hb
    refine ⟨.vec l.length false (t.row l), (H.kill rel).set id (.frz (t.row l)), ?_, .inr ⟨false, rfl⟩, hk.1.set _ hid hb⟩
    rw [Mach.frz, if_neg (by omega), hobj]
    simp only [t.row_pure, if_true]
    rw [if_pos ⟨by omega, Nat.le_refl _⟩, List.drop_zero, List.take_of_length_le (by omega)]
    rfl
theorem Acc.rd {α : Type} {t : Ty α} {H0 H : Heap} {v : AV} {l : List α} (h : Acc t H0 H v l) : Rd t H v l := by
  cases h with
  | nil => exact (ML.rd (.inl ⟨rfl, rfl⟩) H)
  | vec => exact ML.rd (t := t) (l := []) (.inr ⟨true, rfl⟩) H
  | live id rel l n hn hobj hid hidn hrel hne => exact Rd.live hobj hn (by rw [hn]; simp) (by omega)
/-- Reading the list does not depend on what else is there. -/
theorem Acc.other {α : Type} {t : Ty α} {H0 H H' : Heap} {v : AV} {l : List α} (h : Acc t H0 H v l) (hn : H.next ≤ H'.next) (ho : ∀ i, H0.next ≤ i → i < H.next → H'.obj i = H.obj i) : Acc t H0 H' v l := by
  cases h with
  | nil => exact .nil
  | vec => exact .vec
  | live id rel l n hnl hobj hid hidn hrel hne => exact .live id rel l n hnl ((ho id hid hidn).trans hobj) hid (by omega) hrel hne

def bslR (H : Heap) (n e : Nat) : Option (List AV) → R
  | some cs => if cs.all AV.pure then some (.vec n true cs, H) else if n * e ≤ cs.length then some (.sl H.next 0 n n true e, H.new (.cells cs none)) else none
  | none => none
theorem heapA_bslice {f : AOpd → AV} {H : Heap} {n e : Nat} {z : List AV} {ps : List (Nat × Nat × AOpd)} : heapA f H (.bslice n e z ps) = bslR H n e (fillA z (ps.map fun p => (p.1, p.2.1, f p.2.2))) := by
  simp only [heapA, bslR]
  cases fillA z (ps.map fun p => (p.1, p.2.1, f p.2.2)) <;> rfl
theorem fill_nil : fillA [] [] = some [] := rfl
theorem bslR_nil {H : Heap} {e : Nat} : bslR H 0 e (some []) = some (.vec 0 true [], H) := rfl
attribute [simp] heapA_bslice fill_nil bslR_nil

namespace Ytl
theorem bslR_mono {H : Heap} {a : Mo} : bslR H 1 8 (some a.cells) = some (.vec 1 true a.cells, H) := rfl
theorem row_one (a : Mo) : a.cells = tM.row [a] := by simp [Ty.row]; rfl
theorem fill_mono {a : Mo} : fillA Mo.zero.cells [(0, 8, mono a)] = some a.cells := rfl
attribute [simp ↓ high] fill_mono
def tR : Ty Mo where
  e := 8
  agg := true
  val := raw
  cells := Mo.rcells
  len _ := rfl
  pos := by decide
  flat _ := rfl
  one a p q := part_mid 8 p a.rcells q rfl
  nn a b n := rfl
  pure a := rfl
  cell a := rfl
theorem call_28' {x : Mo} (hx : x.valid) {H : Heap} : callI tab 28 [raw x] H = some (mono x, H) := callI_of (call_28 hx (n := 0))

section
variable {s : List Jtm} {k : KF} {Q : AV → Heap → Prop}

/-- The descriptions' monomials, at most so many. -/
theorem l48_1 {v : AV} {l : List Mo} {most : Nat} {H0 : Heap} (hv : ML tR v l) (hb : H0.base ≤ H0.next) (hl : ∀ x ∈ l, x.valid) (hm : most < 2 ^ 20) (hll : l.length < 2 ^ 63) : ∀ (m i : Nat) (σ : Sig) (H : Heap) (w : AV), most - i = m → σ 0 = v → σ 1 = .int .i64 (most : Nat) → σ 5 = w → σ 6 = .int .i64 (i : Nat) → i ≤ most → i ≤ l.length → Acc tM H0 H w (l.take i) → Ow H0 H →
    (∀ σ' H' w', σ' 5 = w' → Acc tM H0 H' w' (l.take most) → Ow H0 H' → Res (ai (callI tab) s k .nrm σ' H') Q) →
    Res (li (callI tab) L48_1 (.inBlock 0 :: s) k σ H) Q := by
  intro m
  induction m with
  | zero =>
    intro i σ H w hm h0 h1 h5 h6 hi hil' ha ho hQ
    have hln := (hv.rd H).1
    have : i = most := by omega
    subst this
    by_cases hlt : i < l.length
    · obtain ⟨il, hil⟩ : ∃ x, x = Jtm.inLoop L48_1 := ⟨_, rfl⟩; rw [li_eq' il hil]
      simp -implicitDefEqProofs (disch := first | omega | with_unfolding_all exact eqR (Eq.refl _)) [nums, -getElem!_pos, -Int.natCast_add, -Int.natCast_mul, -Int.natCast_ediv, L48_1, S48_0, h0, h1, h5, h6, hln]
      subst hil
      try simp -implicitDefEqProofs (disch := first | omega | with_unfolding_all exact eqR (Eq.refl _)) [nums, -getElem!_pos, -Int.natCast_add, -Int.natCast_mul, -Int.natCast_ediv]
      exact hQ _ _ w (by simp [h5]) ha ho
    · obtain ⟨il, hil⟩ : ∃ x, x = Jtm.inLoop L48_1 := ⟨_, rfl⟩; rw [li_eq' il hil]
      simp -implicitDefEqProofs (disch := first | omega | with_unfolding_all exact eqR (Eq.refl _)) [nums, -getElem!_pos, -Int.natCast_add, -Int.natCast_mul, -Int.natCast_ediv, L48_1, S48_0, h0, h1, h5, h6, hln]
      subst hil
      try simp -implicitDefEqProofs (disch := first | omega | with_unfolding_all exact eqR (Eq.refl _)) [nums, -getElem!_pos, -Int.natCast_add, -Int.natCast_mul, -Int.natCast_ediv]
      exact hQ _ _ w (by simp [h5]) ha ho
  | succ m ih =>
    intro i σ H w hm h0 h1 h5 h6 hi hil' ha ho hQ
    have hln := (hv.rd H).1
    by_cases hlt : i < l.length
    · obtain ⟨q, e1, e2⟩ := (hv.rd H).2 i hlt
      rw [show tR.e = 8 from rfl] at e1 e2
      rw [show tR.agg = true from rfl, show tR.val l[i] = raw l[i] from rfl] at e2
      have hval : l[i].valid := hl _ (List.getElem_mem hlt)
      obtain ⟨w', H', e3, ha', ho'⟩ := ha.app (m := [l[i]]) (bs := 64) (ex := true) (n := 1) ho hb (by simp) rfl (by simp; omega)
      rw [show tM.e = 8 from rfl, ← row_one] at e3
      obtain ⟨il, hil⟩ : ∃ x, x = Jtm.inLoop L48_1 := ⟨_, rfl⟩; rw [li_eq' il hil]
      simp -implicitDefEqProofs (disch := first | omega | with_unfolding_all exact eqR (Eq.refl _)) [nums, -getElem!_pos, -Int.natCast_add, -Int.natCast_mul, -Int.natCast_ediv, L48_1, S48_0, h0, h1, h5, h6, hln, e1, e2, call_28' hval, bslR_mono, e3]
      subst hil
      try simp -implicitDefEqProofs (disch := first | omega | with_unfolding_all exact eqR (Eq.refl _)) [nums, -getElem!_pos, -Int.natCast_add, -Int.natCast_mul, -Int.natCast_ediv]
      refine ih (i + 1) _ _ w' (by omega) ?_ ?_ ?_ ?_ (by omega) (by omega) (by rw [List.take_succ_eq_append_getElem hlt]; exact ha') ho' hQ
      all_goals simp [h0, h1, h5, h6]
    · have : l.take most = l.take i := by rw [List.take_of_length_le (by omega), List.take_of_length_le (by omega)]
      rw [this] at hQ
      obtain ⟨il, hil⟩ : ∃ x, x = Jtm.inLoop L48_1 := ⟨_, rfl⟩; rw [li_eq' il hil]
      simp -implicitDefEqProofs (disch := first | omega | with_unfolding_all exact eqR (Eq.refl _)) [nums, -getElem!_pos, -Int.natCast_add, -Int.natCast_mul, -Int.natCast_ediv, L48_1, S48_0, h0, h1, h5, h6, hln]
      subst hil
      try simp -implicitDefEqProofs (disch := first | omega | with_unfolding_all exact eqR (Eq.refl _)) [nums, -getElem!_pos, -Int.natCast_add, -Int.natCast_mul, -Int.natCast_ediv]
      exact hQ _ _ w (by simp [h5]) ha ho
theorem call_48 {v : AV} {l : List Mo} {most : Nat} {H : Heap} (hv : ML tR v l) (hl : ∀ x ∈ l, x.valid) (hm : most < 2 ^ 20) (hll : l.length < 2 ^ 63) : Res (callI tab 48 [v, .int .i64 (most : Nat)] H) fun e H' => H' = H ∧ ML tM e (l.take most) := by
  have hfz := hv.frz
  refine .hide fun Q hQ => .enter tab_48 (by simp [AF48]) (.inr (by simp [hfz])) ?_
  simp -implicitDefEqProofs (disch := first | omega | with_unfolding_all exact eqR (Eq.refl _)) [nums, -getElem!_pos, -Int.natCast_add, -Int.natCast_mul, -Int.natCast_ediv, AF48]
  refine l48_1 hv (H0 := H.begin) (Nat.le_refl _) hl hm hll _ 0 _ _ (.vec 0 true []) rfl ?_ ?_ ?_ ?_ (by omega) (by omega) (by rw [List.take_zero]; exact .vec) (.refl _) fun σ' H' w' q5 ha ho => ?_
  any_goals (first | (simp; done) | skip)
  obtain ⟨e, H2, hz, hml, ho2⟩ := ha.frz ho (Nat.le_refl _) (Nat.le_refl _) 5
  have hnn := hml.nonew H.next 3
  have hws : H2.ws = [] := ho2.ws
  have hz' : Mach.frz H.next 6 H' w' = some (e, H2) := hz
  simp -implicitDefEqProofs (disch := first | omega | with_unfolding_all exact eqR (Eq.refl _)) [nums, -getElem!_pos, -Int.natCast_add, -Int.natCast_mul, -Int.natCast_ediv, S48_2, q5, hz', hnn, wrap_quiet hws hnn]
  exact .mk (hQ _ _ ⟨rfl, hml⟩)

/-- Are two lists the same? -/
theorem l51_2 {v w : AV} {l m : List Mo} {H0 H : Heap} (hv : ML tM v l) (hw : ML tM w m) (hlm : l.length = m.length) (hl : l.length < 2 ^ 40) : ∀ (n i : Nat) (σ : Sig), l.length - i = n → σ 0 = v → σ 1 = w → σ 5 = .int .i64 (i : Nat) → i ≤ l.length →
    Res (some (wrapA H0 (.bool (decide (l.drop i = m.drop i))) H)) Q →
    Res (li (callI tab) L51_2 [.inBlock 0, .code S51_3] (fink [.tmp 4] true H0) σ H) Q := by
  intro n
  have hln := (hv.rd H).1
  induction n with
  | zero =>
    intro i σ hm h0 h1 h5 hi hQ
    rw [List.drop_of_length_le (by omega), List.drop_of_length_le (by omega)] at hQ
    obtain ⟨il, hil⟩ : ∃ x, x = Jtm.inLoop L51_2 := ⟨_, rfl⟩; rw [li_eq' il hil]
    simp -implicitDefEqProofs (disch := first | omega | with_unfolding_all exact eqR (Eq.refl _)) [nums, -getElem!_pos, -Int.natCast_add, -Int.natCast_mul, -Int.natCast_ediv, L51_2, S51_1, h0, h1, h5, hln]
    subst hil
    try simp -implicitDefEqProofs (disch := first | omega | with_unfolding_all exact eqR (Eq.refl _)) [nums, -getElem!_pos, -Int.natCast_add, -Int.natCast_mul, -Int.natCast_ediv, S51_3]
    exact hQ
  | succ n ih =>
    intro i σ hm h0 h1 h5 hi hQ
    have hi1 : i < l.length := by omega
    have hi2 : i < m.length := by omega
    obtain ⟨p, e1, e2⟩ := (hv.rd H).2 i hi1
    obtain ⟨q, e3, e4⟩ := (hw.rd H).2 i hi2
    rw [show tM.e = 8 from rfl] at e1 e2 e3 e4
    rw [show tM.agg = true from rfl, show tM.val l[i] = mono l[i] from rfl] at e2
    rw [show tM.agg = true from rfl, show tM.val m[i] = mono m[i] from rfl] at e4
    rw [List.drop_eq_getElem_cons hi1, List.drop_eq_getElem_cons hi2] at hQ
    by_cases he : l[i] = m[i]
    · have : decide (l[i] :: l.drop (i + 1) = m[i] :: m.drop (i + 1)) = decide (l.drop (i + 1) = m.drop (i + 1)) := by simp only [List.cons.injEq, he, true_and]
      rw [this] at hQ
      obtain ⟨il, hil⟩ : ∃ x, x = Jtm.inLoop L51_2 := ⟨_, rfl⟩; rw [li_eq' il hil]
      simp -implicitDefEqProofs (disch := first | omega | with_unfolding_all exact eqR (Eq.refl _)) [nums, -getElem!_pos, -Int.natCast_add, -Int.natCast_mul, -Int.natCast_ediv, L51_2, S51_0, S51_1, h0, h1, h5, hln, e1, e2, e3, e4, he]
      subst hil
      try simp -implicitDefEqProofs (disch := first | omega | with_unfolding_all exact eqR (Eq.refl _)) [nums, -getElem!_pos, -Int.natCast_add, -Int.natCast_mul, -Int.natCast_ediv]
      refine ih (i + 1) _ (by omega) ?_ ?_ ?_ (by omega) hQ
      all_goals simp [h0, h1, h5]
    · have : decide (l[i] :: l.drop (i + 1) = m[i] :: m.drop (i + 1)) = false := decide_eq_false fun h => he (List.cons.inj h).1
      rw [this] at hQ
      obtain ⟨il, hil⟩ : ∃ x, x = Jtm.inLoop L51_2 := ⟨_, rfl⟩; rw [li_eq' il hil]
      simp -implicitDefEqProofs (disch := first | omega | with_unfolding_all exact eqR (Eq.refl _)) [nums, -getElem!_pos, -Int.natCast_add, -Int.natCast_mul, -Int.natCast_ediv, L51_2, S51_0, S51_1, h0, h1, h5, hln, e1, e2, e3, e4, he]
      subst hil
      try simp -implicitDefEqProofs (disch := first | omega | with_unfolding_all exact eqR (Eq.refl _)) [nums, -getElem!_pos, -Int.natCast_add, -Int.natCast_mul, -Int.natCast_ediv]
      exact hQ
theorem call_51 {v w : AV} {l m : List Mo} {H : Heap} (hv : ML tM v l) (hw : ML tM w m) (hl : l.length < 2 ^ 40) (hm : m.length < 2 ^ 40) : callI tab 51 [v, w] H = some (.bool (decide (l = m)), H) := by
  have hf1 := hv.frz
  have hf2 := hw.frz
  have hl1 := (hv.rd H.begin).1
  have hl2 := (hw.rd H.begin).1
  have : Res (callI tab 51 [v, w] H) fun e H' => e = .bool (decide (l = m)) ∧ H' = H := by
    refine .hide fun Q hQ => .enter tab_51 (by simp [AF51]) (.inr (by simp [hf1, hf2])) ?_
    by_cases hlm : l.length = m.length
    · simp -implicitDefEqProofs (disch := first | omega | with_unfolding_all exact eqR (Eq.refl _)) [nums, -getElem!_pos, -Int.natCast_add, -Int.natCast_mul, -Int.natCast_ediv, AF51, S51_4, hl1, hl2, hlm]
      refine l51_2 hv hw hlm hl _ 0 _ rfl ?_ ?_ ?_ (by omega) ?_
      any_goals (first | (simp; done) | skip)
      try rw [wrap_begin rfl]
      exact .mk (hQ _ _ ⟨rfl, rfl⟩)
    · have hne : decide (l = m) = false := by simp; intro h; exact hlm (by rw [h])
      rw [hne] at hQ
      have hc : ((l.length : Int) == (m.length : Int)) = false := by simp; omega
      simp -implicitDefEqProofs (disch := first | omega | with_unfolding_all exact eqR (Eq.refl _)) [nums, -getElem!_pos, -Int.natCast_add, -Int.natCast_mul, -Int.natCast_ediv, AF51, S51_4, hl1, hl2, hc]
      exact .mk (hQ _ _ ⟨rfl, rfl⟩)
  obtain ⟨e, H', h, rfl, rfl⟩ := this
  exact h
end
end Ytl
end Go.Mach
