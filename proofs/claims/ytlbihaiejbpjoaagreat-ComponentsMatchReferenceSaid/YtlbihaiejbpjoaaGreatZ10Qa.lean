/-
  Pruned copy of the text Qa. By an AI agent.
-/
import Derived.Test.YtlbihaiejbpjoaaGreatZ10Nn
import Derived.Test.YtlbihaiejbpjoaaGreatZ10Pd
set_option linter.unusedSimpArgs false
set_option linter.unusedVariables false
set_option maxRecDepth 100000
namespace Go.Mach
inductive AccP {α : Type} (t : Ty α) (own : Nat → Prop) (H : Heap) : AV → List α → Prop
  | nil : AccP t own H .nils []
  | vec : AccP t own H (.vec 0 true []) []
  | live (id : Nat) (rel : Option Nat) (l : List α) (n : Nat) : n = l.length → H.obj id = .cells (t.row l) rel → own id → id < H.next → (∀ r, rel = some r → own r ∧ r ≠ id ∧ r < H.next) → l ≠ [] → AccP t own H (.sl id 0 n n false t.e) l
structure Df (own : Nat → Prop) (H H' : Heap) : Prop where
  obj : ∀ i, i < H.next → ¬ own i → H'.obj i = H.obj i
  next : H.next ≤ H'.next
  base : H'.base = H.base
  ws : (∀ i, own i → H.base ≤ i) → H.base ≤ H.next → H'.ws = H.ws
  wi : ∀ i ∈ H'.ws, i ∈ H.ws ∨ own i ∨ H.next ≤ i
theorem Df.refl {own : Nat → Prop} {H : Heap} : Df own H H := ⟨fun _ _ _ => rfl, Nat.le_refl _, rfl, fun _ _ => rfl, fun _ h => .inl h⟩
theorem Df.trans {own : Nat → Prop} {H H1 H2 : Heap} (a : Df own H H1) (b : Df own H1 H2) : Df own H H2 where
  obj i h1 h2 := (b.obj i (Nat.lt_of_lt_of_le h1 a.next) h2).trans (a.obj i h1 h2)
  next := Nat.le_trans a.next b.next
  base := b.base.trans a.base
  ws h1 h2 := (b.ws (by rw [a.base]; exact h1) (by rw [a.base]; exact Nat.le_trans h2 a.next)).trans (a.ws h1 h2)
  wi i h := by
    rcases b.wi i h with h | h | h
    · exact a.wi i h
    · exact .inr (.inl h)
    · exact .inr (.inr (Nat.le_trans a.next h))
theorem Df.new {own : Nat → Prop} {H H1 : Heap} (a : Df own H H1) (o : AObj) : Df own H (H1.new o) where
  obj i h1 h2 := by have := a.next; simp only [Heap.new, upd]; rw [if_neg (by omega), a.obj i h1 h2]
  next := by have := a.next; simp only [Heap.new]; omega
  base := a.base
  ws := a.ws
  wi := a.wi
theorem Df.set {own : Nat → Prop} {H H1 : Heap} (a : Df own H H1) {id : Nat} (o : AObj) (hid : own id ∨ H.next ≤ id) : Df own H (H1.set id o) where
  obj i h1 h2 := by
    simp only [Heap.set, upd]
    rw [if_neg (fun e => by subst e; rcases hid with h | h; exact h2 h; omega), a.obj i h1 h2]
  next := a.next
  base := a.base
  ws h1 h2 := by
    have := a.base
    have h3 : H.base ≤ id := by
      rcases hid with h | h
      · exact h1 id h
      · omega
    simp only [Heap.set]; rw [if_neg (by omega)]; exact a.ws h1 h2
  wi i h := by
    simp only [Heap.set] at h
    split at h
    · rcases List.mem_cons.1 h with rfl | h
      · exact .inr hid
      · exact a.wi i h
    · exact a.wi i h
theorem Df.kill {own : Nat → Prop} {H H1 : Heap} (a : Df own H H1) {rel : Option Nat} (hr : ∀ r, rel = some r → own r) : Df own H (H1.kill rel) := by
  cases rel with
  | none => exact a
  | some r => exact a.set _ (.inl (hr r rfl))
theorem Df.mono {own own' : Nat → Prop} {H H' : Heap} (a : Df own H H') (h : ∀ i, own i → i < H.next → own' i) (hw : H'.ws = H.ws ∨ ((∀ i, own' i → H.base ≤ i) → ∀ i, own i → H.base ≤ i)) : Df own' H H' where
  obj i h1 h2 := a.obj i h1 fun h3 => h2 (h i h3 h1)
  next := a.next
  base := a.base
  ws h1 h2 := by
    rcases hw with h | h3
    · exact h
    · exact a.ws (h3 h1) h2
  wi i hi := by
    rcases a.wi i hi with h1 | h1 | h1
    · exact .inl h1
    · by_cases h2 : i < H.next
      · exact .inr (.inl (h i h1 h2))
      · exact .inr (.inr (by omega))
    · exact .inr (.inr h1)
theorem Df.ow {own : Nat → Prop} {H0 H H' : Heap} (a : Df own H H') (ho : Ow H0 H) (hb : H0.base ≤ H0.next) (h : ∀ i, own i → H0.next ≤ i) : Ow H0 H' where
  obj i hi := (a.obj i (Nat.lt_of_lt_of_le hi ho.next) fun h2 => by have := h i h2; omega).trans (ho.obj i hi)
  next := Nat.le_trans ho.next a.next
  base := a.base.trans ho.base
  ws := (a.ws (fun i hi => by rw [ho.base]; exact Nat.le_trans hb (h i hi)) (by rw [ho.base]; exact Nat.le_trans hb ho.next)).trans ho.ws
theorem AccP.frame {α : Type} {t : Ty α} {own own' : Nat → Prop} {H H' : Heap} {v : AV} {l : List α} (h : AccP t own H v l) (hn : H.next ≤ H'.next) (ho : ∀ i, own i → i < H.next → H'.obj i = H.obj i) (hw : ∀ i, own i → i < H.next → own' i) : AccP t own' H' v l := by
  cases h with
  | nil => exact .nil
  | vec => exact .vec
  | live id rel l n hnl hobj hid hidn hrel hne =>
    refine .live id rel l n hnl ((ho id hid hidn).trans hobj) (hw id hid hidn) (by omega) (fun r h => ?_) hne
    have := hrel r h
    exact ⟨hw r this.1 this.2.2, this.2.1, by omega⟩
theorem AccP.acc {α : Type} {t : Ty α} {own : Nat → Prop} {H0 H : Heap} {v : AV} {l : List α} (h : AccP t own H v l) (hw : ∀ i, own i → H0.next ≤ i) : Acc t H0 H v l := by
  cases h with
  | nil => exact .nil
  | vec => exact .vec
  | live id rel l n hnl hobj hid hidn hrel hne => exact .live id rel l n hnl hobj (hw id hid) hidn (fun r h => ⟨hw r (hrel r h).1, (hrel r h).2.1⟩) hne
theorem AccP.app {α : Type} {t : Ty α} {own : Nat → Prop} {H : Heap} {v : AV} {l m : List α} {bs : Nat} {ex : Bool} {n : Nat} (h : AccP t own H v l) (hnew : own H.next) (hm : m ≠ []) (hn : n = m.length) (hs : (l.length + m.length) * bs ≤ 2 ^ 45) :
    ∃ v' H', appA H t.e bs v (.vec n ex (t.row m)) = some (v', H') ∧ AccP t own H' v' (l ++ m) ∧ Df own H H' := by
  subst hn
  have hlen : (t.row m).length = m.length * t.e := t.row_length m
  have hm0 : m.length ≠ 0 := by simpa using hm
  have hsrc : srcA H t.e (.vec m.length ex (t.row m)) = some (m.length, t.row m) := by simp [srcA, hlen]
  cases h with
  | nil =>
    refine ⟨.sl H.next 0 m.length m.length false t.e, H.new (.cells (t.row m) none), ?_, .live H.next none ([] ++ m) m.length (by simp) ?_ hnew (by show H.next < H.next + 1; omega) (fun r h => by cases h) (by simpa using hm), Df.refl.new _⟩
    · simp only [appA, hsrc]
      rw [if_neg hm0, if_pos (by simpa using hs)]
    · simp [Heap.new, upd]
  | vec =>
    refine ⟨.sl H.next 0 m.length m.length false t.e, H.new (.cells (t.row m) none), ?_, .live H.next none ([] ++ m) m.length (by simp) ?_ hnew (by show H.next < H.next + 1; omega) (fun r h => by cases h) (by simpa using hm), Df.refl.new _⟩
    · simp only [appA, hsrc]
      rw [if_neg hm0, if_pos ⟨by simpa using hs, by simp⟩]
      simp
    · simp [Heap.new, upd]
  | live id rel l n hnl hobj hid hidn hrel hne =>
    subst hnl
    have hl : (t.row l).length = l.length * t.e := t.row_length l
    have hne2 : id ≠ H.next := by omega
    have hnx : ((H.kill rel).set id (.cells (t.row l) (some H.next))).next = H.next := by cases rel <;> rfl
    refine ⟨.sl H.next 0 (l.length + m.length) (l.length + m.length) false t.e, ((H.kill rel).set id (.cells (t.row l) (some H.next))).new (.cells (t.row l ++ t.row m) (some id)), ?_, ?_, ((Df.refl.kill fun r h => (hrel r h).1).set _ (.inl hid)).new _⟩
    · simp only [appA, hsrc]
      rw [if_neg hm0]
      simp only [ne_eq, not_true_eq_false, if_false]
      rw [hobj]
      simp only
      rw [if_neg (by omega), if_pos hs]
      simp [hl]
    · refine .live H.next (some id) (l ++ m) _ (by simp) ?_ hnew ?_ (fun r h => ?_) (by simp [hne])
      · simp only [Heap.new, upd]
        rw [if_pos (by rw [hnx]), t.row_append]
      · show H.next < ((H.kill rel).set id (.cells (t.row l) (some H.next))).next + 1
        rw [hnx]; omega
      · cases h
        refine ⟨hid, hne2, ?_⟩
        show id < ((H.kill rel).set id (.cells (t.row l) (some H.next))).next + 1
        rw [hnx]; omega
namespace Ytl
section
variable {s : List Jtm} {k : KF} {Q : AV → Heap → Prop}
theorem ldM {a : Mo} : part true 8 a.cells 0 = some (mono a) := rfl
theorem call_37' {a c : Mo} {H : Heap} : callI tab 46 [mono a, mono c] H = some (mono (Mo.map2 imax a c), H) := callI_of (call_37 (n := 0))
theorem call_34' {a c : Mo} {H : Heap} : callI tab 84 [mono a, mono c] H = some (.bool (decide (Mo.le a c)), H) := callI_of (call_34 (n := 0))
theorem call_49L {v : AV} {l : List Mo} {H0 H : Heap} (ha : Acc tM H0 H v l) (ho : Ow H0 H) (hb : H0.base ≤ H0.next) (hl : l.length < 65536) : Res (callI tab 27 [v] H) fun e H' => Ow H0 H' ∧ ∃ r, ML tM e r ∧ IsMin l r := by
  obtain ⟨w', H3, hz, hw', ho3⟩ := ha.frz ho hb (b := H.base) (by rw [ho.base]; exact hb) 5
  have hz2 := hw'.frz H3.base 5 H3
  obtain ⟨e9, H4, hc, hH4, r', h9', hmin'⟩ := call_49 (H := H3) hw' hl
  subst hH4
  have hz' : frz H.base 6 H v = some (w', H4) := hz
  have hz2' : frz H4.base 6 H4 w' = some (w', H4) := hz2
  have hc9 := callI_frz (H := H) (H1 := H4) (args := [v]) (args' := [w']) tab_49 rfl rfl (by simp [hz']) (by simp [hz2']) hc
  rw [hc9]
  exact .mk ⟨ho3, r', h9', hmin'⟩
theorem l53_1 {v0 v1 : AV} {l2 : List Mo} (hv : ML tM v1 l2) {H0 : Heap} (hb : H0.base ≤ H0.next) (hl2 : l2.length < 65536) {b7 : Nat} (hb7 : H0.next ≤ b7) {a : Mo} {x10 x11 x12 : AV} : ∀ (m j : Nat) (σ : Sig) (H : Heap) (w : AV) (cur : List Mo), l2.length - j = m → j ≤ l2.length → σ 0 = v0 → σ 1 = v1 → σ 5 = w → σ 7 = .ptr b7 0 → σ 10 = x10 → σ 11 = x11 → σ 12 = x12 → σ 16 = v1 → σ 17 = .int .i64 (l2.length : Nat) → σ 18 = .int .i64 (j : Nat) → AccP tM (fun i => H0.next ≤ i ∧ i ≠ b7) H w cur → Ow H0 H → b7 < H.next → H.obj b7 = .cells a.cells none → cur.length + (l2.length - j) < 65536 →
    (∀ σ' H' w', σ' 0 = v0 → σ' 1 = v1 → σ' 5 = w' → σ' 10 = x10 → σ' 11 = x11 → σ' 12 = x12 → AccP tM (fun i => H0.next ≤ i ∧ i ≠ b7) H' w' (cur ++ (l2.drop j).map (Mo.map2 imax a)) → Ow H0 H' → Res (ai (callI tab) s k .nrm σ' H') Q) →
    Res (li (callI tab) L53_1 (.inBlock 2 :: s) k σ H) Q := by
  intro m
  induction m with
  | zero =>
    intro j σ H w cur hm hj h0 h1 h5 h7 h10 h11 h12 h16 h17 h18 ha ho hn7 ho7 hlen hQ
    rw [List.drop_of_length_le (by omega)] at hQ
    obtain ⟨il, hil⟩ : ∃ x, x = Jtm.inLoop L53_1 := ⟨_, rfl⟩; rw [li_eq' il hil]
    simp -implicitDefEqProofs (disch := first | omega | with_unfolding_all exact eqR (Eq.refl _)) [nums, -getElem!_pos, -Int.natCast_add, -Int.natCast_mul, -Int.natCast_ediv, L53_1, S53_0, h0, h1, h5, h7, h10, h11, h12, h16, h17, h18]
    subst hil
    try simp -implicitDefEqProofs (disch := first | omega | with_unfolding_all exact eqR (Eq.refl _)) [nums, -getElem!_pos, -Int.natCast_add, -Int.natCast_mul, -Int.natCast_ediv]
    refine hQ _ _ w ?_ ?_ ?_ ?_ ?_ ?_ (by simpa using ha) ho <;> simp [h0, h1, h5, h10, h11, h12]
  | succ m ih =>
    intro j σ H w cur hm hj h0 h1 h5 h7 h10 h11 h12 h16 h17 h18 ha ho hn7 ho7 hlen hQ
    have hjl : j < l2.length := by omega
    obtain ⟨p, e1, e2⟩ := ml_at hv H hjl
    have hne : (b7 = H.next) = False := eq_false (by omega)
    have d1 : Df (fun i => H0.next ≤ i ∧ i ≠ b7) H ((H.new (.cells Mo.zero.cells none)).set H.next (.cells (l2[j]).cells none)) := (Df.refl.new _).set _ (.inr (Nat.le_refl _))
    have a1 : AccP tM (fun i => H0.next ≤ i ∧ i ≠ b7) ((H.new (.cells Mo.zero.cells none)).set H.next (.cells (l2[j]).cells none)) w cur := ha.frame (by show H.next ≤ H.next + 1; omega) (fun i h1 h2 => by simp only [Heap.new, Heap.set, upd]; rw [if_neg (by omega), if_neg (by omega)]) fun i h _ => h
    obtain ⟨w', H', e3, ha', df⟩ := a1.app (m := [Mo.map2 imax a l2[j]]) (bs := 64) (ex := true) (n := 1) ⟨by show H0.next ≤ H.next + 1; have := ho.next; omega, by show H.next + 1 ≠ b7; omega⟩ (by simp) rfl (by simp; omega)
    rw [show tM.e = 8 from rfl, ← row_one] at e3
    have ho' : Ow H0 H' := (d1.trans df).ow ho hb fun i h => h.1
    have hn' : b7 < H'.next := Nat.lt_of_lt_of_le hn7 (d1.trans df).next
    have ho7' : H'.obj b7 = .cells a.cells none := by rw [(d1.trans df).obj b7 hn7 (fun h => h.2 rfl)]; exact ho7
    obtain ⟨il, hil⟩ : ∃ x, x = Jtm.inLoop L53_1 := ⟨_, rfl⟩; rw [li_eq' il hil]
    simp -implicitDefEqProofs (disch := first | omega | with_unfolding_all exact eqR (Eq.refl _)) [nums, -getElem!_pos, -Int.natCast_add, -Int.natCast_mul, -Int.natCast_ediv, L53_1, S53_0, h0, h1, h5, h7, h10, h11, h12, h16, h17, h18, e1, e2, storeZ, ldM, ho7, hne, call_37', bslR_mono, e3]
    subst hil
    try simp -implicitDefEqProofs (disch := first | omega | with_unfolding_all exact eqR (Eq.refl _)) [nums, -getElem!_pos, -Int.natCast_add, -Int.natCast_mul, -Int.natCast_ediv]
    have hm2 : cur ++ (l2.drop j).map (Mo.map2 imax a) = (cur ++ [Mo.map2 imax a l2[j]]) ++ (l2.drop (j + 1)).map (Mo.map2 imax a) := by rw [List.drop_eq_getElem_cons hjl, List.map_cons, List.append_assoc, List.singleton_append]
    rw [hm2] at hQ
    refine ih (j + 1) _ H' w' _ (by omega) (by omega) ?_ ?_ ?_ ?_ ?_ ?_ ?_ ?_ ?_ ?_ ha' ho' hn' ho7' (by simp; omega) hQ
    all_goals simp [h0, h1, h5, h7, h10, h11, h12, h16, h17]
def lcms (l1 l2 : List Mo) : List Mo := l1.flatMap fun a => l2.map (Mo.map2 imax a)
theorem lcms_cons {a : Mo} {l1 l2 : List Mo} : lcms (a :: l1) l2 = l2.map (Mo.map2 imax a) ++ lcms l1 l2 := by simp [lcms]
theorem lcms_length {l2 : List Mo} : ∀ l1 : List Mo, (lcms l1 l2).length = l1.length * l2.length
  | [] => by simp [lcms]
  | a :: l1 => by rw [lcms_cons, List.length_append, List.length_map, lcms_length l1, List.length_cons, Nat.succ_mul]; omega
theorem l53_4 {v0 v1 : AV} {l1 l2 : List Mo} (hv0 : ML tM v0 l1) (hv : ML tM v1 l2) {H0 : Heap} (hb : H0.base ≤ H0.next) (hl1 : l1.length < 65536) (hl2 : l2.length < 65536) : ∀ (m j : Nat) (σ : Sig) (H : Heap) (w : AV) (cur : List Mo), l1.length - j = m → j ≤ l1.length → σ 0 = v0 → σ 1 = v1 → σ 5 = w → σ 10 = v0 → σ 11 = .int .i64 (l1.length : Nat) → σ 12 = .int .i64 (j : Nat) → AccP tM (fun i => H0.next ≤ i) H w cur → Ow H0 H → cur.length + (l1.length - j) * l2.length < 65536 →
    (∀ σ' H' w', σ' 5 = w' → AccP tM (fun i => H0.next ≤ i) H' w' (cur ++ lcms (l1.drop j) l2) → Ow H0 H' → Res (ai (callI tab) s k .nrm σ' H') Q) →
    Res (li (callI tab) L53_4 (.inBlock 0 :: s) k σ H) Q := by
  intro m
  induction m with
  | zero =>
    intro j σ H w cur hm hj h0 h1 h5 h10 h11 h12 ha ho hlen hQ
    rw [List.drop_of_length_le (by omega)] at hQ
    obtain ⟨il, hil⟩ : ∃ x, x = Jtm.inLoop L53_4 := ⟨_, rfl⟩; rw [li_eq' il hil]
    simp -implicitDefEqProofs (disch := first | omega | with_unfolding_all exact eqR (Eq.refl _)) [nums, -getElem!_pos, -Int.natCast_add, -Int.natCast_mul, -Int.natCast_ediv, L53_4, S53_3, S53_2, h0, h1, h5, h10, h11, h12]
    subst hil
    try simp -implicitDefEqProofs (disch := first | omega | with_unfolding_all exact eqR (Eq.refl _)) [nums, -getElem!_pos, -Int.natCast_add, -Int.natCast_mul, -Int.natCast_ediv]
    refine hQ _ _ w ?_ (by simpa [lcms] using ha) ho <;> simp [h5]
  | succ m ih =>
    intro j σ H w cur hm hj h0 h1 h5 h10 h11 h12 ha ho hlen hQ
    have hjl : j < l1.length := by omega
    obtain ⟨p, e1, e2⟩ := ml_at hv0 H hjl
    have hln := fun H => (hv.rd H).1
    have d1 : Df (fun i => H0.next ≤ i) H ((H.new (.cells Mo.zero.cells none)).set H.next (.cells (l1[j]).cells none)) := (Df.refl.new _).set _ (.inr (Nat.le_refl _))
    have a1 : AccP tM (fun i => H0.next ≤ i ∧ i ≠ H.next) ((H.new (.cells Mo.zero.cells none)).set H.next (.cells (l1[j]).cells none)) w cur := ha.frame (by show H.next ≤ H.next + 1; omega) (fun i h1 h2 => by simp only [Heap.new, Heap.set, upd]; rw [if_neg (by omega), if_neg (by omega)]) fun i h h2 => ⟨h, by omega⟩
    have hmul : (l1.length - j) * l2.length = l2.length + (l1.length - (j + 1)) * l2.length := by rw [show l1.length - j = (l1.length - (j + 1)) + 1 by omega, Nat.succ_mul]; omega
    rw [List.drop_eq_getElem_cons hjl, lcms_cons, ← List.append_assoc] at hQ
    obtain ⟨il, hil⟩ : ∃ x, x = Jtm.inLoop L53_4 := ⟨_, rfl⟩; rw [li_eq' il hil]
    simp -implicitDefEqProofs (disch := first | omega | with_unfolding_all exact eqR (Eq.refl _)) [nums, -getElem!_pos, -Int.natCast_add, -Int.natCast_mul, -Int.natCast_ediv, L53_4, S53_3, h0, h1, h5, h10, h11, h12, e1, e2, storeZ, hln]
    refine l53_1 (v0 := v0) (v1 := v1) hv hb hl2 (b7 := H.next) ho.next (a := l1[j]) (x10 := v0) (x11 := .int .i64 (l1.length : Nat)) (x12 := .int .i64 (j : Nat)) _ 0 _ _ w cur rfl (by omega) ?_ ?_ ?_ ?_ ?_ ?_ ?_ ?_ ?_ ?_ a1 (d1.ow ho hb fun i h => h) ?_ ?_ (by omega) fun σ1 H1 w1 g0 g1 g5 g10 g11 g12 ga go => ?_
    any_goals (first | (simp [h0, h1, h5, h10, h11, h12]; done) | skip)
    simp -implicitDefEqProofs (disch := first | omega | with_unfolding_all exact eqR (Eq.refl _)) [nums, -getElem!_pos, -Int.natCast_add, -Int.natCast_mul, -Int.natCast_ediv, S53_2, g0, g1, g5, g10, g11, g12]
    subst hil
    try simp -implicitDefEqProofs (disch := first | omega | with_unfolding_all exact eqR (Eq.refl _)) [nums, -getElem!_pos, -Int.natCast_add, -Int.natCast_mul, -Int.natCast_ediv]
    refine ih (j + 1) _ H1 w1 _ (by omega) (by omega) ?_ ?_ ?_ ?_ ?_ ?_ (ga.frame (Nat.le_refl _) (fun _ _ _ => rfl) fun i h _ => h.1) go (by simp; omega) hQ
    all_goals simp [g0, g1, g5, g10, g11, g12]
theorem call_53 {v0 v1 : AV} {l1 l2 : List Mo} {H : Heap} (hv0 : ML tM v0 l1) (hv : ML tM v1 l2) (hl1 : l1.length < 65536) (hl2 : l2.length < 65536) (hl : l1.length * l2.length < 65536) : Res (callI tab 18 [v0, v1] H) fun e H' => H' = H ∧ ∃ r, ML tM e r ∧ IsMin (lcms l1 l2) r := by
  have hf1 := hv0.frz
  have hf2 := hv.frz
  have hln := fun H => (hv0.rd H).1
  refine .hide fun Q hQ => .enter tab_53 (by simp [AF53]) (.inr (by simp [hf1, hf2])) ?_
  simp -implicitDefEqProofs (disch := first | omega | with_unfolding_all exact eqR (Eq.refl _)) [nums, -getElem!_pos, -Int.natCast_add, -Int.natCast_mul, -Int.natCast_ediv, AF53, hln]
  refine l53_4 hv0 hv (H0 := H.begin) (Nat.le_refl _) hl1 hl2 _ 0 _ _ .nils [] rfl (by omega) ?_ ?_ ?_ ?_ ?_ ?_ .nil (.refl _) (by simpa using hl) fun σ' H' w' q5 ha ho => ?_
  any_goals (first | (simp; done) | skip)
  have hll : ([] ++ lcms (l1.drop 0) l2).length < 65536 := by
    rw [List.nil_append, List.drop_zero, lcms_length]; exact hl
  simp -implicitDefEqProofs (disch := first | omega | with_unfolding_all exact eqR (Eq.refl _)) [nums, -getElem!_pos, -Int.natCast_add, -Int.natCast_mul, -Int.natCast_ediv, S53_5, q5]
  refine .call (call_49L (ha.acc (H0 := H.begin) fun i h => h) ho (Nat.le_refl _) hll) fun e H2 ⟨ho2, r, hr, hmin⟩ => ?_
  have hf := hr.frz
  have hnn := hr.nonew H.next 3
  have hws : H2.ws = [] := ho2.ws
  simp -implicitDefEqProofs (disch := first | omega | with_unfolding_all exact eqR (Eq.refl _)) [nums, -getElem!_pos, -Int.natCast_add, -Int.natCast_mul, -Int.natCast_ediv, hf, hnn, wrap_quiet hws hnn]
  exact .mk (hQ _ _ ⟨rfl, r, hr, by simpa using hmin⟩)
end
end Ytl
end Go.Mach
set_option linter.unusedSimpArgs false
set_option linter.unusedVariables false
set_option maxRecDepth 100000
namespace Go.Mach.Ytl
open Go.Mach
section
variable {s : List Jtm} {k : KF} {Q : AV → Heap → Prop}
def radN (m : Mo) : Nat → Mo
  | 0 => m
  | j + 1 => (radN m j).setI j (imin ((radN m j).get j) 1)
def rad (m : Mo) : Mo := radN m 8
theorem mm_min {k : IntKind} {x y : Int} : mmA false (.int k x) [.int k y] = some (.int k (imin x y)) := by
  simp [mmA, mm2, imin]
theorem radN_get {m : Mo} {q : Nat} (hq : q < 8) : ∀ j, j ≤ 8 → (radN m j).get q = if q < j then imin (m.get q) 1 else m.get q
  | 0, _ => by simp [radN]
  | j + 1, h => by
    have ih := fun q hq => radN_get (m := m) (q := q) hq j (by omega)
    rw [radN, get_set (by omega)]
    by_cases hqj : q = j
    · subst hqj; rw [if_pos rfl, if_pos (by omega), ih q hq, if_neg (by omega)]
    · rw [if_neg hqj, ih q hq]
      by_cases h2 : q < j
      · rw [if_pos h2, if_pos (by omega)]
      · rw [if_neg h2, if_neg (by omega)]
theorem rad_get {m : Mo} {q : Nat} (hq : q < 8) : (rad m).get q = imin (m.get q) 1 := by rw [rad, radN_get hq 8 (Nat.le_refl _), if_pos hq]
theorem l54_1 {v0 : AV} {H0 : Heap} (hb : H0.base ≤ H0.next) {b : Nat} (hb5 : H0.next ≤ b) {a : Mo} {x7 x8 x9 w : AV} {cur : List Mo} : ∀ (m j : Nat) (σ : Sig) (H : Heap), 8 - j = m → j ≤ 8 → σ 0 = v0 → σ 3 = w → σ 5 = .ptr b 0 → σ 7 = x7 → σ 8 = x8 → σ 9 = x9 → σ 13 = .int .i64 (j : Nat) → AccP tM (fun i => H0.next ≤ i ∧ i ≠ b) H w cur → Ow H0 H → b < H.next → H.obj b = .cells (radN a j).cells none →
    (∀ σ' H', σ' 0 = v0 → σ' 3 = w → σ' 5 = .ptr b 0 → σ' 7 = x7 → σ' 8 = x8 → σ' 9 = x9 → AccP tM (fun i => H0.next ≤ i ∧ i ≠ b) H' w cur → Ow H0 H' → b < H'.next → H'.obj b = .cells (rad a).cells none → Res (ai (callI tab) s k .nrm σ' H') Q) →
    Res (li (callI tab) L54_1 (.inBlock 2 :: s) k σ H) Q := by
  intro m
  induction m with
  | zero =>
    intro j σ H hm hj h0 h3 h5 h7 h8 h9 h13 ha ho hn hob hQ
    have : j = 8 := by omega
    subst this
    obtain ⟨il, hil⟩ : ∃ x, x = Jtm.inLoop L54_1 := ⟨_, rfl⟩; rw [li_eq' il hil]
    simp -implicitDefEqProofs (disch := first | omega | with_unfolding_all exact eqR (Eq.refl _)) [nums, -getElem!_pos, -Int.natCast_add, -Int.natCast_mul, -Int.natCast_ediv, L54_1, S54_0, h0, h3, h5, h7, h8, h9, h13]
    subst hil
    try simp -implicitDefEqProofs (disch := first | omega | with_unfolding_all exact eqR (Eq.refl _)) [nums, -getElem!_pos, -Int.natCast_add, -Int.natCast_mul, -Int.natCast_ediv]
    refine hQ _ _ ?_ ?_ ?_ ?_ ?_ ?_ ha ho hn hob <;> simp [h0, h3, h5, h7, h8, h9]
  | succ m ih =>
    intro j σ H hm hj h0 h3 h5 h7 h8 h9 h13 ha ho hn hob hQ
    have hj8 : j < 8 := by omega
    have hc : ((j : Nat) : Int) < 8 := by omega
    have hd : Df (fun i => H0.next ≤ i) H (H.set b (.cells (radN a (j + 1)).cells none)) := Df.refl.set _ (.inl hb5)
    have hst : (radN a j).setI j (imin ((radN a j).get j) 1) = radN a (j + 1) := rfl
    obtain ⟨il, hil⟩ : ∃ x, x = Jtm.inLoop L54_1 := ⟨_, rfl⟩; rw [li_eq' il hil]
    simp -implicitDefEqProofs (disch := first | omega | with_unfolding_all exact eqR (Eq.refl _)) [nums, -getElem!_pos, -Int.natCast_add, -Int.natCast_mul, -Int.natCast_ediv, L54_1, S54_0, h0, h3, h5, h7, h8, h9, h13, hc, iaddr_arr, hob, loadI, mm_min, storeI, hst]
    subst hil
    try simp -implicitDefEqProofs (disch := first | omega | with_unfolding_all exact eqR (Eq.refl _)) [nums, -getElem!_pos, -Int.natCast_add, -Int.natCast_mul, -Int.natCast_ediv]
    refine ih (j + 1) _ _ (by omega) (by omega) ?_ ?_ ?_ ?_ ?_ ?_ ?_ (ha.frame (Nat.le_refl _) (fun i h1 h2 => by simp only [Heap.set, upd]; rw [if_neg h1.2]) fun i h _ => h) (hd.ow ho hb fun i h => h) hn (by simp [Heap.set, upd]) hQ
    all_goals simp [h0, h3, h5, h7, h8, h9]
theorem l54_5 {v0 : AV} {l : List Mo} (hv : ML tM v0 l) {H0 : Heap} (hb : H0.base ≤ H0.next) (hl : l.length < 65536) : ∀ (m j : Nat) (σ : Sig) (H : Heap) (w : AV) (cur : List Mo), l.length - j = m → j ≤ l.length → σ 0 = v0 → σ 3 = w → σ 7 = v0 → σ 8 = .int .i64 (l.length : Nat) → σ 9 = .int .i64 (j : Nat) → AccP tM (fun i => H0.next ≤ i) H w cur → Ow H0 H → cur.length + (l.length - j) < 65536 →
    (∀ σ' H' w', σ' 3 = w' → AccP tM (fun i => H0.next ≤ i) H' w' (cur ++ (l.drop j).map rad) → Ow H0 H' → Res (ai (callI tab) s k .nrm σ' H') Q) →
    Res (li (callI tab) L54_5 (.inBlock 0 :: s) k σ H) Q := by
  intro m
  induction m with
  | zero =>
    intro j σ H w cur hm hj h0 h3 h7 h8 h9 ha ho hlen hQ
    rw [List.drop_of_length_le (by omega)] at hQ
    obtain ⟨il, hil⟩ : ∃ x, x = Jtm.inLoop L54_5 := ⟨_, rfl⟩; rw [li_eq' il hil]
    simp -implicitDefEqProofs (disch := first | omega | with_unfolding_all exact eqR (Eq.refl _)) [nums, -getElem!_pos, -Int.natCast_add, -Int.natCast_mul, -Int.natCast_ediv, L54_5, S54_4, h0, h3, h7, h8, h9]
    subst hil
    try simp -implicitDefEqProofs (disch := first | omega | with_unfolding_all exact eqR (Eq.refl _)) [nums, -getElem!_pos, -Int.natCast_add, -Int.natCast_mul, -Int.natCast_ediv]
    refine hQ _ _ w ?_ (by simpa using ha) ho <;> simp [h3]
  | succ m ih =>
    intro j σ H w cur hm hj h0 h3 h7 h8 h9 ha ho hlen hQ
    have hjl : j < l.length := by omega
    obtain ⟨p, e1, e2⟩ := ml_at hv H hjl
    have d1 : Df (fun i => H0.next ≤ i) H ((H.new (.cells Mo.zero.cells none)).set H.next (.cells (l[j]).cells none)) := (Df.refl.new _).set _ (.inr (Nat.le_refl _))
    have a1 : AccP tM (fun i => H0.next ≤ i ∧ i ≠ H.next) ((H.new (.cells Mo.zero.cells none)).set H.next (.cells (l[j]).cells none)) w cur := ha.frame (by show H.next ≤ H.next + 1; omega) (fun i h1 h2 => by simp only [Heap.new, Heap.set, upd]; rw [if_neg (by omega), if_neg (by omega)]) fun i h h2 => ⟨h, by omega⟩
    have hm2 : cur ++ (l.drop j).map rad = (cur ++ [rad l[j]]) ++ (l.drop (j + 1)).map rad := by rw [List.drop_eq_getElem_cons hjl, List.map_cons, List.append_assoc, List.singleton_append]
    rw [hm2] at hQ
    obtain ⟨il, hil⟩ : ∃ x, x = Jtm.inLoop L54_5 := ⟨_, rfl⟩; rw [li_eq' il hil]
    simp -implicitDefEqProofs (disch := first | omega | with_unfolding_all exact eqR (Eq.refl _)) [nums, -getElem!_pos, -Int.natCast_add, -Int.natCast_mul, -Int.natCast_ediv, L54_5, S54_4, h0, h3, h7, h8, h9, e1, e2, storeZ]
    refine l54_1 (v0 := v0) (H0 := H0) hb (b := H.next) ho.next (a := l[j]) (x7 := v0) (x8 := .int .i64 (l.length : Nat)) (x9 := .int .i64 (j : Nat)) (w := w) (cur := cur) _ 0 _ _ rfl (by omega) ?_ ?_ ?_ ?_ ?_ ?_ ?_ a1 (d1.ow ho hb fun i h => h) (by show H.next < H.next + 1; omega) (by simp [Heap.set, upd, radN]) fun σ1 H1 g0 g3 g5 g7 g8 g9 ga go gn gob => ?_
    any_goals (first | (simp [h0, h3, h7, h8, h9]; done) | skip)
    have hx := go.next
    have hnx := ho.next
    obtain ⟨w', H', e3, ha', df⟩ := ga.app (m := [rad l[j]]) (bs := 64) (ex := true) (n := 1) ⟨hx, by omega⟩ (by simp) rfl (by simp; omega)
    rw [show tM.e = 8 from rfl, ← row_one] at e3
    simp -implicitDefEqProofs (disch := first | omega | with_unfolding_all exact eqR (Eq.refl _)) [nums, -getElem!_pos, -Int.natCast_add, -Int.natCast_mul, -Int.natCast_ediv, S54_2, S54_3, g0, g3, g5, g7, g8, g9, gob, ldM, bslR_mono, e3]
    subst hil
    try simp -implicitDefEqProofs (disch := first | omega | with_unfolding_all exact eqR (Eq.refl _)) [nums, -getElem!_pos, -Int.natCast_add, -Int.natCast_mul, -Int.natCast_ediv]
    refine ih (j + 1) _ H' w' _ (by omega) (by omega) ?_ ?_ ?_ ?_ ?_ (ha'.frame (Nat.le_refl _) (fun _ _ _ => rfl) fun i h _ => h.1) (df.ow go hb fun i h => h.1) (by simp; omega) hQ
    all_goals simp [g0, g3, g7, g8, g9]
theorem call_54 {v0 : AV} {l : List Mo} {H : Heap} (hv : ML tM v0 l) (hl : l.length < 65536) : Res (callI tab 20 [v0] H) fun e H' => H' = H ∧ ∃ r, ML tM e r ∧ IsMin (l.map rad) r := by
  have hf1 := hv.frz
  have hln := fun H => (hv.rd H).1
  refine .hide fun Q hQ => .enter tab_54 (by simp [AF54]) (.inr (by simp [hf1])) ?_
  simp -implicitDefEqProofs (disch := first | omega | with_unfolding_all exact eqR (Eq.refl _)) [nums, -getElem!_pos, -Int.natCast_add, -Int.natCast_mul, -Int.natCast_ediv, AF54, hln]
  refine l54_5 hv (H0 := H.begin) (Nat.le_refl _) hl _ 0 _ _ .nils [] rfl (by omega) ?_ ?_ ?_ ?_ ?_ .nil (.refl _) (by simpa using hl) fun σ' H' w' q3 ha ho => ?_
  any_goals (first | (simp; done) | skip)
  simp -implicitDefEqProofs (disch := first | omega | with_unfolding_all exact eqR (Eq.refl _)) [nums, -getElem!_pos, -Int.natCast_add, -Int.natCast_mul, -Int.natCast_ediv, S54_6, q3]
  refine .call (call_49L (ha.acc (H0 := H.begin) fun i h => h) ho (Nat.le_refl _) (by simpa using hl)) fun e H2 ⟨ho2, r, hr, hmin⟩ => ?_
  have hf := hr.frz
  have hnn := hr.nonew H.next 3
  have hws : H2.ws = [] := ho2.ws
  simp -implicitDefEqProofs (disch := first | omega | with_unfolding_all exact eqR (Eq.refl _)) [nums, -getElem!_pos, -Int.natCast_add, -Int.natCast_mul, -Int.natCast_ediv, hf, hnn, wrap_quiet hws hnn]
  exact .mk (hQ _ _ ⟨rfl, r, hr, by simpa using hmin⟩)
theorem l94_2 {v1 : AV} {l : List Mo} (hv : ML tM v1 l) (hl : l.length < 2 ^ 40) {a : Mo} {b : Nat} {H0 H : Heap} (hob : H.obj b = .cells a.cells none) : ∀ (m j : Nat) (σ : Sig), l.length - j = m → j ≤ l.length → σ 1 = v1 → σ 2 = .ptr b 0 → σ 5 = .int .i64 (j : Nat) →
    Res (some (wrapA H0 (.bool (!(l.drop j).any fun x => !decide (x = a) && decide (Mo.le x a))) H)) Q →
    Res (li (callI tab) L94_2 [.inBlock 0, .code S94_3] (fink [.tmp 4] true H0) σ H) Q := by
  intro m
  have hln := (hv.rd H).1
  induction m with
  | zero =>
    intro j σ hm hj h1 h2 h5 hQ
    rw [List.drop_of_length_le (by omega)] at hQ
    obtain ⟨il, hil⟩ : ∃ x, x = Jtm.inLoop L94_2 := ⟨_, rfl⟩; rw [li_eq' il hil]
    simp -implicitDefEqProofs (disch := first | omega | with_unfolding_all exact eqR (Eq.refl _)) [nums, -getElem!_pos, -Int.natCast_add, -Int.natCast_mul, -Int.natCast_ediv, L94_2, S94_1, h1, h2, h5, hln]
    subst hil
    try simp -implicitDefEqProofs (disch := first | omega | with_unfolding_all exact eqR (Eq.refl _)) [nums, -getElem!_pos, -Int.natCast_add, -Int.natCast_mul, -Int.natCast_ediv, S94_3]
    exact hQ
  | succ m ih =>
    intro j σ hm hj h1 h2 h5 hQ
    have hjl : j < l.length := by omega
    obtain ⟨p, e1, e2⟩ := ml_at hv H hjl
    rw [List.drop_eq_getElem_cons hjl, List.any_cons] at hQ
    by_cases he : l[j] = a
    · rw [decide_eq_true he, Bool.not_true, Bool.false_and, Bool.false_or] at hQ
      obtain ⟨il, hil⟩ : ∃ x, x = Jtm.inLoop L94_2 := ⟨_, rfl⟩; rw [li_eq' il hil]
      simp -implicitDefEqProofs (disch := first | omega | with_unfolding_all exact eqR (Eq.refl _)) [nums, -getElem!_pos, -Int.natCast_add, -Int.natCast_mul, -Int.natCast_ediv, L94_2, S94_1, S94_0, h1, h2, h5, hln, e1, e2, hob, ldM, he]
      subst hil
      try simp -implicitDefEqProofs (disch := first | omega | with_unfolding_all exact eqR (Eq.refl _)) [nums, -getElem!_pos, -Int.natCast_add, -Int.natCast_mul, -Int.natCast_ediv]
      refine ih (j + 1) _ (by omega) (by omega) ?_ ?_ ?_ hQ
      all_goals simp [h1, h2, h5]
    · rw [decide_eq_false he, Bool.not_false, Bool.true_and] at hQ
      by_cases hc : Mo.le l[j] a
      · rw [decide_eq_true hc, Bool.true_or] at hQ
        obtain ⟨il, hil⟩ : ∃ x, x = Jtm.inLoop L94_2 := ⟨_, rfl⟩; rw [li_eq' il hil]
        simp -implicitDefEqProofs (disch := first | omega | with_unfolding_all exact eqR (Eq.refl _)) [nums, -getElem!_pos, -Int.natCast_add, -Int.natCast_mul, -Int.natCast_ediv, L94_2, S94_1, h1, h2, h5, hln, e1, e2, hob, ldM, call_34', hc, he]
        subst hil
        try simp -implicitDefEqProofs (disch := first | omega | with_unfolding_all exact eqR (Eq.refl _)) [nums, -getElem!_pos, -Int.natCast_add, -Int.natCast_mul, -Int.natCast_ediv]
        exact hQ
      · rw [decide_eq_false hc, Bool.false_or] at hQ
        obtain ⟨il, hil⟩ : ∃ x, x = Jtm.inLoop L94_2 := ⟨_, rfl⟩; rw [li_eq' il hil]
        simp -implicitDefEqProofs (disch := first | omega | with_unfolding_all exact eqR (Eq.refl _)) [nums, -getElem!_pos, -Int.natCast_add, -Int.natCast_mul, -Int.natCast_ediv, L94_2, S94_1, S94_0, h1, h2, h5, hln, e1, e2, hob, ldM, call_34', hc, he]
        subst hil
        try simp -implicitDefEqProofs (disch := first | omega | with_unfolding_all exact eqR (Eq.refl _)) [nums, -getElem!_pos, -Int.natCast_add, -Int.natCast_mul, -Int.natCast_ediv]
        refine ih (j + 1) _ (by omega) (by omega) ?_ ?_ ?_ hQ
        all_goals simp [h1, h2, h5]
theorem call_94 {a : Mo} {v : AV} {l : List Mo} {H : Heap} (hv : ML tM v l) (hl : l.length < 2 ^ 40) : callI tab 62 [mono a, v] H = some (.bool (!l.any fun x => !decide (x = a) && decide (Mo.le x a)), H) := by
  have hf := hv.frz
  have : Res (callI tab 62 [mono a, v] H) fun e H' => e = .bool (!l.any fun x => !decide (x = a) && decide (Mo.le x a)) ∧ H' = H := by
    refine .hide fun Q hQ => .enter tab_94 (by simp [AF94]) (.inr (by simp [hf])) ?_
    simp -implicitDefEqProofs (disch := first | omega | with_unfolding_all exact eqR (Eq.refl _)) [nums, -getElem!_pos, -Int.natCast_add, -Int.natCast_mul, -Int.natCast_ediv, AF94]
    refine l94_2 hv hl (a := a) (b := H.next) ?_ _ 0 _ rfl (by omega) ?_ ?_ ?_ ?_
    any_goals (first | (simp; done) | skip)
    rw [List.drop_zero]
    exact .mk (hQ _ _ ⟨rfl, rfl⟩)
  obtain ⟨e, H', h, rfl, rfl⟩ := this
  exact h
end
end Go.Mach.Ytl
set_option linter.unusedSimpArgs false
set_option linter.unusedVariables false
set_option maxRecDepth 100000
namespace Go.Mach.Ytl
open Go.Mach
section
variable {s : List Jtm} {k : KF} {Q : AV → Heap → Prop}
def insD : List Mo → Mo → List Mo
  | [], a => [a]
  | b :: l, a => if 0 ≤ Mo.cmp a b then (if b = a then b :: l else a :: b :: l) else b :: insD l a
theorem cmp_three (a b : Mo) : Mo.cmp a b = -1 ∨ Mo.cmp a b = 0 ∨ Mo.cmp a b = 1 := cmp_pm
theorem insD_mem {a x : Mo} : ∀ {l : List Mo}, x ∈ insD l a ↔ x = a ∨ x ∈ l
  | [] => by simp [insD]
  | b :: l => by
    simp only [insD]
    split
    · split
      · rename_i h; subst h; simp only [List.mem_cons]; constructor
        · exact .inr
        · rintro (h | h)
          · exact .inl h
          · exact h
      · simp only [List.mem_cons]
    · simp only [List.mem_cons, insD_mem (l := l)]
      constructor
      · rintro (h | h | h) <;> simp [h]
      · rintro (h | h | h) <;> simp [h]
theorem insD_desc {a : Mo} : ∀ {l : List Mo}, Desc l → Desc (insD l a)
  | [], _ => by simp [insD, Desc]
  | b :: l, h => by
    have h1 := List.pairwise_cons.1 h
    simp only [insD]
    split
    · rename_i h0
      split
      · exact h
      · rename_i hne
        have hab : Mo.cmp a b = 1 := by
          rcases cmp_three a b with e | e | e
          · omega
          · exact absurd (cmp_eq.1 e).symm hne
          · exact e
        refine List.pairwise_cons.2 ⟨fun x hx => ?_, h⟩
        rcases List.mem_cons.1 hx with rfl | hx
        · exact hab
        · exact cmp_tr hab (h1.1 x hx)
    · rename_i h0
      refine List.pairwise_cons.2 ⟨fun x hx => ?_, insD_desc h1.2⟩
      rcases insD_mem.1 hx with rfl | hx
      · have := cmp_neg (a := x) (b := b)
        rcases cmp_three x b with e | e | e <;> omega
      · exact h1.1 x hx
theorem insD_len {a : Mo} : ∀ {l : List Mo}, (insD l a).length ≤ l.length + 1
  | [] => by simp [insD]
  | b :: l => by
    simp only [insD]
    split
    · split <;> simp
    · have := insD_len (a := a) (l := l); simp only [List.length_cons]; omega
theorem l95_3 {v0 : AV} {l : List Mo} (hv : ML tM v0 l) (hl : l.length < 2 ^ 30) {a : Mo} {b : Nat} {H0 : Heap} (hb : H0.base ≤ H0.next) (hb0 : H0.next ≤ b) {tot : List Mo} : ∀ (m j : Nat) (σ : Sig) (H : Heap) (w : AV) (cur : List Mo) (dn : Bool), l.length - j = m → j ≤ l.length → σ 0 = v0 → σ 3 = .ptr b 0 → σ 5 = w → σ 6 = .bool dn → σ 7 = .int .i64 (j : Nat) → AccP tM (fun i => H0.next ≤ i ∧ i ≠ b) H w cur → Ow H0 H → b < H.next → H.obj b = .cells a.cells none → cur.length ≤ 2 * j → cur ++ (if dn then l.drop j else insD (l.drop j) a) = tot →
    (∀ σ' H' w' cur' dn', σ' 3 = .ptr b 0 → σ' 5 = w' → σ' 6 = .bool dn' → AccP tM (fun i => H0.next ≤ i ∧ i ≠ b) H' w' cur' → Ow H0 H' → b < H'.next → H'.obj b = .cells a.cells none → cur'.length ≤ 2 * l.length → cur' ++ (if dn' then [] else [a]) = tot → Res (ai (callI tab) s k .nrm σ' H') Q) →
    Res (li (callI tab) L95_3 (.inBlock 0 :: s) k σ H) Q := by
  intro m
  induction m with
  | zero =>
    intro j σ H w cur dn hm hj h0 h3 h5 h6 h7 ha ho hn hob hlen htot hQ
    have hln := (hv.rd H).1
    rw [List.drop_of_length_le (by omega)] at htot
    obtain ⟨il, hil⟩ : ∃ x, x = Jtm.inLoop L95_3 := ⟨_, rfl⟩; rw [li_eq' il hil]
    simp -implicitDefEqProofs (disch := first | omega | with_unfolding_all exact eqR (Eq.refl _)) [nums, -getElem!_pos, -Int.natCast_add, -Int.natCast_mul, -Int.natCast_ediv, L95_3, S95_2, h0, h3, h5, h6, h7, hln]
    subst hil
    try simp -implicitDefEqProofs (disch := first | omega | with_unfolding_all exact eqR (Eq.refl _)) [nums, -getElem!_pos, -Int.natCast_add, -Int.natCast_mul, -Int.natCast_ediv]
    refine hQ _ _ w cur dn ?_ ?_ ?_ ha ho hn hob (by omega) (by simpa [insD] using htot) <;> simp [h3, h5, h6]
  | succ m ih =>
    intro j σ H w cur dn hm hj h0 h3 h5 h6 h7 ha ho hn hob hlen htot hQ
    have hln := (hv.rd H).1
    have hjl : j < l.length := by omega
    have hx := ho.next
    obtain ⟨p, e1, e2⟩ := ml_at hv H hjl
    rw [List.drop_eq_getElem_cons hjl] at htot
    have one : ∀ x : Mo, ∃ w' H', appA H 8 64 w (.vec 1 true x.cells) = some (w', H') ∧ AccP tM (fun i => H0.next ≤ i ∧ i ≠ b) H' w' (cur ++ [x]) ∧ Df (fun i => H0.next ≤ i ∧ i ≠ b) H H' := by
      intro x
      obtain ⟨w', H', e3, h⟩ := ha.app (m := [x]) (bs := 64) (ex := true) (n := 1) ⟨hx, by omega⟩ (by simp) rfl (by simp; omega)
      rw [show tM.e = 8 from rfl, ← row_one] at e3
      exact ⟨w', H', e3, h⟩
    have stay : ∀ H', Df (fun i => H0.next ≤ i ∧ i ≠ b) H H' → Ow H0 H' ∧ b < H'.next ∧ H'.obj b = .cells a.cells none := fun H' df => ⟨df.ow ho hb fun i h => h.1, Nat.lt_of_lt_of_le hn df.next, by rw [df.obj b hn (fun h => h.2 rfl)]; exact hob⟩
    cases dn with
    | true =>
      obtain ⟨w', H', e3, ha', df⟩ := one l[j]
      obtain ⟨s1, s2, s3⟩ := stay H' df
      obtain ⟨il, hil⟩ : ∃ x, x = Jtm.inLoop L95_3 := ⟨_, rfl⟩; rw [li_eq' il hil]
      simp -implicitDefEqProofs (disch := first | omega | with_unfolding_all exact eqR (Eq.refl _)) [nums, -getElem!_pos, -Int.natCast_add, -Int.natCast_mul, -Int.natCast_ediv, L95_3, S95_2, S95_1, S95_0, h0, h3, h5, h6, h7, hln, e1, e2, hob, ldM, bslR_mono, e3]
      subst hil
      try simp -implicitDefEqProofs (disch := first | omega | with_unfolding_all exact eqR (Eq.refl _)) [nums, -getElem!_pos, -Int.natCast_add, -Int.natCast_mul, -Int.natCast_ediv]
      refine ih (j + 1) _ H' w' _ true (by omega) (by omega) ?_ ?_ ?_ ?_ ?_ ha' s1 s2 s3 (by simp; omega) (by simpa using htot) hQ
      all_goals simp [h0, h3, h5, h6, h7]
    | false =>
      simp only [Bool.false_eq_true, if_false, insD] at htot
      by_cases hc : 0 ≤ Mo.cmp a l[j]
      · rw [if_pos hc] at htot
        by_cases he : l[j] = a
        · rw [if_pos he] at htot
          obtain ⟨w', H', e3, ha', df⟩ := one l[j]
          obtain ⟨s1, s2, s3⟩ := stay H' df
          have hc' : 0 ≤ Mo.cmp a a := by rw [he] at hc; exact hc
          rw [he] at e2 e3
          obtain ⟨il, hil⟩ : ∃ x, x = Jtm.inLoop L95_3 := ⟨_, rfl⟩; rw [li_eq' il hil]
          simp -implicitDefEqProofs (disch := first | omega | with_unfolding_all exact eqR (Eq.refl _)) [nums, -getElem!_pos, -Int.natCast_add, -Int.natCast_mul, -Int.natCast_ediv, L95_3, S95_2, S95_1, S95_0, h0, h3, h5, h6, h7, hln, e1, e2, hob, ldM, bslR_mono, e3, call_36', hc', he]
          subst hil
          try simp -implicitDefEqProofs (disch := first | omega | with_unfolding_all exact eqR (Eq.refl _)) [nums, -getElem!_pos, -Int.natCast_add, -Int.natCast_mul, -Int.natCast_ediv]
          refine ih (j + 1) _ H' w' _ true (by omega) (by omega) ?_ ?_ ?_ ?_ ?_ ha' s1 s2 s3 (by simp; omega) (by simpa using htot) hQ
          all_goals simp [h0, h3, h5, h6, h7]
        · rw [if_neg he] at htot
          obtain ⟨w', H', e3, ha', df⟩ := one a
          obtain ⟨s1, s2, s3⟩ := stay H' df
          obtain ⟨p', e1', e2'⟩ := ml_at hv H' hjl
          rw [e1] at e1'
          cases e1'
          have hx' := s1.next
          obtain ⟨w2, H2, e4, ha2, df2⟩ := ha'.app (m := [l[j]]) (bs := 64) (ex := true) (n := 1) ⟨hx', by omega⟩ (by simp) rfl (by simp; omega)
          rw [show tM.e = 8 from rfl, ← row_one] at e4
          obtain ⟨t1, t2, t3⟩ := stay H2 (df.trans df2)
          obtain ⟨il, hil⟩ : ∃ x, x = Jtm.inLoop L95_3 := ⟨_, rfl⟩; rw [li_eq' il hil]
          simp -implicitDefEqProofs (disch := first | omega | with_unfolding_all exact eqR (Eq.refl _)) [nums, -getElem!_pos, -Int.natCast_add, -Int.natCast_mul, -Int.natCast_ediv, L95_3, S95_2, S95_1, S95_0, h0, h3, h5, h6, h7, hln, e1, e2, e2', hob, ldM, bslR_mono, e3, e4, call_36', hc, he]
          subst hil
          try simp -implicitDefEqProofs (disch := first | omega | with_unfolding_all exact eqR (Eq.refl _)) [nums, -getElem!_pos, -Int.natCast_add, -Int.natCast_mul, -Int.natCast_ediv]
          refine ih (j + 1) _ H2 w2 _ true (by omega) (by omega) ?_ ?_ ?_ ?_ ?_ ha2 t1 t2 t3 (by simp; omega) (by simpa using htot) hQ
          all_goals simp [h0, h3, h5, h6, h7]
      · rw [if_neg hc] at htot
        obtain ⟨w', H', e3, ha', df⟩ := one l[j]
        obtain ⟨s1, s2, s3⟩ := stay H' df
        obtain ⟨il, hil⟩ : ∃ x, x = Jtm.inLoop L95_3 := ⟨_, rfl⟩; rw [li_eq' il hil]
        simp -implicitDefEqProofs (disch := first | omega | with_unfolding_all exact eqR (Eq.refl _)) [nums, -getElem!_pos, -Int.natCast_add, -Int.natCast_mul, -Int.natCast_ediv, L95_3, S95_2, S95_1, S95_0, h0, h3, h5, h6, h7, hln, e1, e2, hob, ldM, bslR_mono, e3, call_36', hc]
        subst hil
        try simp -implicitDefEqProofs (disch := first | omega | with_unfolding_all exact eqR (Eq.refl _)) [nums, -getElem!_pos, -Int.natCast_add, -Int.natCast_mul, -Int.natCast_ediv]
        refine ih (j + 1) _ H' w' _ false (by omega) (by omega) ?_ ?_ ?_ ?_ ?_ ha' s1 s2 s3 (by simp; omega) (by simpa using htot) hQ
        all_goals simp [h0, h3, h5, h6, h7]
theorem call_95 {v0 : AV} {l : List Mo} {a : Mo} {H : Heap} (hv : ML tM v0 l) (hl : l.length < 2 ^ 30) : Res (callI tab 63 [v0, mono a] H) fun e H' => H' = H ∧ ML tM e (insD l a) := by
  have hf1 := hv.frz
  refine .hide fun Q hQ => .enter tab_95 (by simp [AF95]) (.inr (by simp [hf1])) ?_
  simp -implicitDefEqProofs (disch := first | omega | with_unfolding_all exact eqR (Eq.refl _)) [nums, -getElem!_pos, -Int.natCast_add, -Int.natCast_mul, -Int.natCast_ediv, AF95]
  refine l95_3 hv hl (a := a) (b := H.next) (H0 := H.begin) (Nat.le_refl _) (Nat.le_refl _) (tot := insD l a) _ 0 _ _ (.vec 0 true []) [] false rfl (by omega) ?_ ?_ ?_ ?_ ?_ .vec (Ow.new (.refl _) _) (by show H.next < H.next + 1; omega) (by simp [Heap.new, upd]) (by simp) (by simp) fun σ1 H1 w1 cur dn g3 g5 g6 ga go gn gob gl gt => ?_
  any_goals (first | (simp; done) | skip)
  have fin : ∀ (σ2 : Sig) (H2 : Heap) (w2 : AV) (l2 : List Mo), σ2 5 = w2 → Acc tM H.begin H2 w2 l2 → Ow H.begin H2 → l2 = insD l a → Res (gi (callI tab) S95_4 [] (fink [.tmp 4] true H) σ2 H2) Q := by
    intro σ2 H2 w2 l2 q5 ha ho he
    obtain ⟨e, H3, hz, hml, ho2⟩ := ha.frz ho (Nat.le_refl _) (Nat.le_refl _) 5
    have hnn := hml.nonew H.next 3
    have hws : H3.ws = [] := ho2.ws
    have hz' : Mach.frz H.next 6 H2 w2 = some (e, H3) := hz
    simp -implicitDefEqProofs (disch := first | omega | with_unfolding_all exact eqR (Eq.refl _)) [nums, -getElem!_pos, -Int.natCast_add, -Int.natCast_mul, -Int.natCast_ediv, S95_4, q5, hz', hnn, wrap_quiet hws hnn]
    exact .mk (hQ _ _ ⟨rfl, by rw [← he]; exact hml⟩)
  cases dn with
  | true =>
    simp -implicitDefEqProofs (disch := first | omega | with_unfolding_all exact eqR (Eq.refl _)) [nums, -getElem!_pos, -Int.natCast_add, -Int.natCast_mul, -Int.natCast_ediv, S95_5, g3, g5, g6]
    refine fin _ _ w1 cur ?_ (ga.acc fun i h => h.1) go (by simpa using gt)
    simp [g5]
  | false =>
    have hx' := go.next
    obtain ⟨w2, H2, e4, ha2, df2⟩ := ga.app (m := [a]) (bs := 64) (ex := true) (n := 1) ⟨hx', by have : H.next < H1.next := gn; omega⟩ (by simp) rfl (by simp; omega)
    rw [show tM.e = 8 from rfl, ← row_one] at e4
    simp -implicitDefEqProofs (disch := first | omega | with_unfolding_all exact eqR (Eq.refl _)) [nums, -getElem!_pos, -Int.natCast_add, -Int.natCast_mul, -Int.natCast_ediv, S95_5, g3, g5, g6, gob, ldM, bslR_mono, e4]
    refine fin _ _ w2 _ ?_ (ha2.acc fun i h => h.1) (df2.ow go (Nat.le_refl _) fun i h => h.1) (by simpa using gt)
    simp
def lowB (l : List Mo) (x : Mo) : Bool := !l.any fun d => !decide (d = x) && decide (Mo.le d x)
theorem lowB_iff {l : List Mo} {x : Mo} : lowB l x = true ↔ ∀ d ∈ l, Mo.le d x → d = x := by
  unfold lowB
  rw [Bool.not_eq_true', List.any_eq_false]
  constructor
  · intro h d hd hle
    have := h d hd
    simp only [Bool.and_eq_true, Bool.not_eq_true', decide_eq_false_iff_not, decide_eq_true_eq, not_and] at this
    exact Classical.byContradiction fun hne => this hne hle
  · intro h d hd
    simp only [Bool.and_eq_true, Bool.not_eq_true', decide_eq_false_iff_not, decide_eq_true_eq, not_and]
    exact fun hne hle => hne (h d hd hle)
def minR (L : List Mo) (l : List Mo) : List Mo := l.foldl (fun acc x => if lowB L x then insD acc x else acc) []
theorem foldl_min {L : List Mo} : ∀ (l acc : List Mo), Desc acc → Desc (l.foldl (fun acc x => if lowB L x then insD acc x else acc) acc) ∧ ∀ x, x ∈ l.foldl (fun acc x => if lowB L x then insD acc x else acc) acc ↔ x ∈ acc ∨ x ∈ l ∧ lowB L x = true
  | [], acc, h => ⟨h, by simp⟩
  | y :: l, acc, h => by
    simp only [List.foldl_cons]
    by_cases hy : lowB L y = true
    · rw [if_pos hy]
      have := foldl_min (L := L) l (insD acc y) (insD_desc h)
      refine ⟨this.1, fun x => ?_⟩
      rw [this.2 x, insD_mem, List.mem_cons]
      constructor
      · rintro ((rfl | h) | ⟨h1, h2⟩)
        · exact .inr ⟨.inl rfl, hy⟩
        · exact .inl h
        · exact .inr ⟨.inr h1, h2⟩
      · rintro (h | ⟨rfl | h1, h2⟩)
        · exact .inl (.inr h)
        · exact .inl (.inl rfl)
        · exact .inr ⟨h1, h2⟩
    · rw [if_neg hy]
      have := foldl_min (L := L) l acc h
      refine ⟨this.1, fun x => ?_⟩
      rw [this.2 x, List.mem_cons]
      constructor
      · rintro (h | ⟨h1, h2⟩)
        · exact .inl h
        · exact .inr ⟨.inr h1, h2⟩
      · rintro (h | ⟨rfl | h1, h2⟩)
        · exact .inl h
        · exact absurd h2 hy
        · exact .inr ⟨h1, h2⟩
theorem foldl_len {L : List Mo} : ∀ (l acc : List Mo), (l.foldl (fun acc x => if lowB L x then insD acc x else acc) acc).length ≤ acc.length + l.length
  | [], acc => by simp
  | y :: l, acc => by
    simp only [List.foldl_cons, List.length_cons]
    have := foldl_len (L := L) l (if lowB L y then insD acc y else acc)
    have h2 : (if lowB L y then insD acc y else acc).length ≤ acc.length + 1 := by
      split
      · exact insD_len
      · omega
    omega
theorem minR_isMin {l : List Mo} : IsMin l (minR l l) := by
  obtain ⟨h1, h2⟩ := foldl_min (L := l) l [] .nil
  refine ⟨h1, fun m => ?_⟩
  unfold minR
  rw [h2 m]
  simp only [List.not_mem_nil, false_or, lowB_iff, Low]
theorem l55_2 {v0 : AV} {l : List Mo} (hv : ML tM v0 l) (hl : l.length < 2 ^ 30) {H : Heap} : ∀ (m j : Nat) (σ : Sig) (w : AV), l.length - j = m → j ≤ l.length → σ 0 = v0 → σ 3 = w → σ 4 = .int .i64 (j : Nat) → ML tM w (minR l (l.take j)) →
    (∀ σ' w', σ' 3 = w' → ML tM w' (minR l l) → Res (ai (callI tab) s k .nrm σ' H) Q) →
    Res (li (callI tab) L55_2 (.inBlock 0 :: s) k σ H) Q := by
  intro m
  have hln := (hv.rd H).1
  induction m with
  | zero =>
    intro j σ w hm hj h0 h3 h4 hw hQ
    rw [List.take_of_length_le (by omega)] at hw
    obtain ⟨il, hil⟩ : ∃ x, x = Jtm.inLoop L55_2 := ⟨_, rfl⟩; rw [li_eq' il hil]
    simp -implicitDefEqProofs (disch := first | omega | with_unfolding_all exact eqR (Eq.refl _)) [nums, -getElem!_pos, -Int.natCast_add, -Int.natCast_mul, -Int.natCast_ediv, L55_2, S55_1, h0, h3, h4, hln]
    subst hil
    try simp -implicitDefEqProofs (disch := first | omega | with_unfolding_all exact eqR (Eq.refl _)) [nums, -getElem!_pos, -Int.natCast_add, -Int.natCast_mul, -Int.natCast_ediv]
    refine hQ _ w ?_ hw <;> simp [h3]
  | succ m ih =>
    intro j σ w hm hj h0 h3 h4 hw hQ
    have hjl : j < l.length := by omega
    obtain ⟨p, e1, e2⟩ := ml_at hv H hjl
    have hlow : callI tab 62 [mono l[j], v0] H = some (.bool (lowB l l[j]), H) := call_94 hv (by omega)
    have hnext : minR l (l.take (j + 1)) = if lowB l l[j] then insD (minR l (l.take j)) l[j] else minR l (l.take j) := by
      rw [List.take_succ_eq_append_getElem hjl]; simp only [minR, List.foldl_append, List.foldl_cons, List.foldl_nil]
    have hlen : (minR l (l.take j)).length < 2 ^ 30 := by
      have := foldl_len (L := l) (l.take j) []
      simp only [List.length_nil, List.length_take] at this
      unfold minR; omega
    by_cases hc : lowB l l[j] = true
    · rw [hc] at hlow
      rw [if_pos hc] at hnext
      obtain ⟨il, hil⟩ : ∃ x, x = Jtm.inLoop L55_2 := ⟨_, rfl⟩; rw [li_eq' il hil]
      simp -implicitDefEqProofs (disch := first | omega | with_unfolding_all exact eqR (Eq.refl _)) [nums, -getElem!_pos, -Int.natCast_add, -Int.natCast_mul, -Int.natCast_ediv, L55_2, S55_1, S55_0, h0, h3, h4, hln, e1, e2, hlow]
      refine .call (call_95 (a := l[j]) hw hlen) fun e H2 ⟨hH, hml⟩ => ?_
      subst hH
      simp -implicitDefEqProofs (disch := first | omega | with_unfolding_all exact eqR (Eq.refl _)) [nums, -getElem!_pos, -Int.natCast_add, -Int.natCast_mul, -Int.natCast_ediv, S55_0, h0, h3, h4]
      subst hil
      try simp -implicitDefEqProofs (disch := first | omega | with_unfolding_all exact eqR (Eq.refl _)) [nums, -getElem!_pos, -Int.natCast_add, -Int.natCast_mul, -Int.natCast_ediv]
      refine ih (j + 1) _ e (by omega) (by omega) ?_ ?_ ?_ (by rw [hnext]; exact hml) hQ
      all_goals simp [h0, h3, h4]
    · rw [Bool.not_eq_true] at hc
      rw [hc] at hlow
      rw [if_neg (by simp [hc])] at hnext
      obtain ⟨il, hil⟩ : ∃ x, x = Jtm.inLoop L55_2 := ⟨_, rfl⟩; rw [li_eq' il hil]
      simp -implicitDefEqProofs (disch := first | omega | with_unfolding_all exact eqR (Eq.refl _)) [nums, -getElem!_pos, -Int.natCast_add, -Int.natCast_mul, -Int.natCast_ediv, L55_2, S55_1, S55_0, h0, h3, h4, hln, e1, e2, hlow]
      subst hil
      try simp -implicitDefEqProofs (disch := first | omega | with_unfolding_all exact eqR (Eq.refl _)) [nums, -getElem!_pos, -Int.natCast_add, -Int.natCast_mul, -Int.natCast_ediv]
      refine ih (j + 1) _ w (by omega) (by omega) ?_ ?_ ?_ (by rw [hnext]; exact hw) hQ
      all_goals simp [h0, h3, h4]
theorem call_55 {v0 : AV} {l : List Mo} {H : Heap} (hv : ML tM v0 l) (hl : l.length < 2 ^ 30) : Res (callI tab 36 [v0] H) fun e H' => H' = H ∧ ∃ r, ML tM e r ∧ IsMin l r := by
  have hf1 := hv.frz
  refine .hide fun Q hQ => .enter tab_55 (by simp [AF55]) (.inr (by simp [hf1])) ?_
  simp -implicitDefEqProofs (disch := first | omega | with_unfolding_all exact eqR (Eq.refl _)) [nums, -getElem!_pos, -Int.natCast_add, -Int.natCast_mul, -Int.natCast_ediv, AF55]
  refine l55_2 hv hl _ 0 _ (.vec 0 true []) rfl (by omega) ?_ ?_ ?_ (.inr ⟨true, rfl⟩) fun σ' w' q3 hml => ?_
  any_goals (first | (simp; done) | skip)
  have hf := hml.frz
  have hnn := hml.nonew H.next 3
  simp -implicitDefEqProofs (disch := first | omega | with_unfolding_all exact eqR (Eq.refl _)) [nums, -getElem!_pos, -Int.natCast_add, -Int.natCast_mul, -Int.natCast_ediv, S55_3, q3, hf, hnn]
  try rw [wrap_begin hnn]
  exact .mk (hQ _ _ ⟨rfl, _, hml, minR_isMin⟩)
end
end Go.Mach.Ytl
