/-
  Pruned copy of the text Qa. By an AI agent.
-/
import Derived.Test.YtlbihaiejbpjoaaZ3Nn
import Derived.Test.YtlbihaiejbpjoaaZ3Pd
set_option linter.unusedSimpArgs false
set_option linter.unusedVariables false
set_option maxRecDepth 100000
namespace Go.Mach
inductive AccP {α : Type} (t : Ty α) (own : Nat → Prop) (H : Heap) : AV → List α → Prop
  | nil : AccP t own H .nils []
  | vec : AccP t own H (.vec 0 true []) []
  | live (id : Nat) (rel : Option Nat) (l : List α) (n : Nat) : n = l.length → H.obj id = .cells (t.row l) rel → own id → id < H.next → (∀ r, rel = some r → own r ∧ r ≠ id ∧ r < H.next) → l ≠ [] → AccP t own H (.sl id 0 n n false t.e) l
structure Df (own : Nat → Prop) (H H' : Heap) : Prop where
  obj : ∀ i, i < H.next → ¬ own i → H'.obj i = H.obj i
  next : H.next ≤ H'.next
  base : H'.base = H.base
  ws : (∀ i, own i → H.base ≤ i) → H.base ≤ H.next → H'.ws = H.ws
  wi : ∀ i ∈ H'.ws, i ∈ H.ws ∨ own i ∨ H.next ≤ i
theorem Df.refl {own : Nat → Prop} {H : Heap} : Df own H H := ⟨fun _ _ _ => rfl, Nat.le_refl _, rfl, fun _ _ => rfl, fun _ h => .inl h⟩
theorem Df.trans {own : Nat → Prop} {H H1 H2 : Heap} (a : Df own H H1) (b : Df own H1 H2) : Df own H H2 where
  obj i h1 h2 := (b.obj i (Nat.lt_of_lt_of_le h1 a.next) h2).trans (a.obj i h1 h2)
  next := Nat.le_trans a.next b.next
  base := b.base.trans a.base
  ws h1 h2 := (b.ws (by rw [a.base]; exact h1) (by rw [a.base]; exact Nat.le_trans h2 a.next)).trans (a.ws h1 h2)
  wi i h := by
    rcases b.wi i h with h | h | h
    · exact a.wi i h
    · exact .inr (.inl h)
    · exact .inr (.inr (Nat.le_trans a.next h))
theorem Df.new {own : Nat → Prop} {H H1 : Heap} (a : Df own H H1) (o : AObj) : Df own H (H1.new o) where
  obj i h1 h2 := by have := a.next; simp only [Heap.new, upd]; rw [if_neg (by omega), a.obj i h1 h2]
  next := by have := a.next; simp only [Heap.new]; omega
  base := a.base
  ws := a.ws
  wi := a.wi
theorem Df.set {own : Nat → Prop} {H H1 : Heap} (a : Df own H H1) {id : Nat} (o : AObj) (hid : own id ∨ H.next ≤ id) : Df own H (H1.set id o) where
  obj i h1 h2 := by
    simp only [Heap.set, upd]
    rw [if_neg (fun e => by subst e; rcases hid with h | h; exact h2 h; omega), a.obj i h1 h2]
  next := a.next
  base := a.base
  ws h1 h2 := by
    have := a.base
    have h3 : H.base ≤ id := by
      rcases hid with h | h
      · exact h1 id h
      · omega
    simp only [Heap.set]; rw [if_neg (by omega)]; exact a.ws h1 h2
  wi i h := by
    simp only [Heap.set] at h
    split at h
    · rcases List.mem_cons.1 h with rfl | h
      · exact .inr hid
      · exact a.wi i h
    · exact a.wi i h
theorem Df.kill {own : Nat → Prop} {H H1 : Heap} (a : Df own H H1) {rel : Option Nat} (hr : ∀ r, rel = some r → own r) : Df own H (H1.kill rel) := by
  cases rel with
  | none => exact a
  | some r => exact a.set _ (.inl (hr r rfl))
theorem Df.mono {own own' : Nat → Prop} {H H' : Heap} (a : Df own H H') (h : ∀ i, own i → i < H.next → own' i) (hw : H'.ws = H.ws ∨ ((∀ i, own' i → H.base ≤ i) → ∀ i, own i → H.base ≤ i)) : Df own' H H' where
  obj i h1 h2 := a.obj i h1 fun h3 => h2 (h i h3 h1)
  next := a.next
  base := a.base
  ws h1 h2 := by
    rcases hw with h | h3
    · exact h
    · exact a.ws (h3 h1) h2
  wi i hi := by
    rcases a.wi i hi with h1 | h1 | h1
    · exact .inl h1
    · by_cases h2 : i < H.next
      · exact .inr (.inl (h i h1 h2))
      · exact .inr (.inr (by omega))
    · exact .inr (.inr h1)
theorem Df.ow {own : Nat → Prop} {H0 H H' : Heap} (a : Df own H H') (ho : Ow H0 H) (hb : H0.base ≤ H0.next) (h : ∀ i, own i → H0.next ≤ i) : Ow H0 H' where
  obj i hi := (a.obj i (Nat.lt_of_lt_of_le hi ho.next) fun h2 => by have := h i h2; omega).trans (ho.obj i hi)
  next := Nat.le_trans ho.next a.next
  base := a.base.trans ho.base
  ws := (a.ws (fun i hi => by rw [ho.base]; exact Nat.le_trans hb (h i hi)) (by rw [ho.base]; exact Nat.le_trans hb ho.next)).trans ho.ws
theorem AccP.frame {α : Type} {t : Ty α} {own own' : Nat → Prop} {H H' : Heap} {v : AV} {l : List α} (h : AccP t own H v l) (hn : H.next ≤ H'.next) (ho : ∀ i, own i → i < H.next → H'.obj i = H.obj i) (hw : ∀ i, own i → i < H.next → own' i) : AccP t own' H' v l := by
  cases h with
  | nil => exact .nil
  | vec => exact .vec
  | live id rel l n hnl hobj hid hidn hrel hne =>
    refine .live id rel l n hnl ((ho id hid hidn).trans hobj) (hw id hid hidn) (by omega) (fun r h => ?_) hne
    have := hrel r h
    exact ⟨hw r this.1 this.2.2, this.2.1, by omega⟩
theorem AccP.acc {α : Type} {t : Ty α} {own : Nat → Prop} {H0 H : Heap} {v : AV} {l : List α} (h : AccP t own H v l) (hw : ∀ i, own i → H0.next ≤ i) : Acc t H0 H v l := by
  cases h with
  | nil => exact .nil
  | vec => exact .vec
  | live id rel l n hnl hobj hid hidn hrel hne => exact .live id rel l n hnl hobj (hw id hid) hidn (fun r h => ⟨hw r (hrel r h).1, (hrel r h).2.1⟩) hne
theorem AccP.app {α : Type} {t : Ty α} {own : Nat → Prop} {H : Heap} {v : AV} {l m : List α} {bs : Nat} {ex : Bool} {n : Nat} (h : AccP t own H v l) (hnew : own H.next) (hm : m ≠ []) (hn : n = m.length) (hs : (l.length + m.length) * bs ≤ 2 ^ 45) :
    ∃ v' H', appA H t.e bs v (.vec n ex (t.row m)) = some (v', H') ∧ AccP t own H' v' (l ++ m) ∧ Df own H H' := by
  subst hn
  have hlen : (t.row m).length = m.length * t.e := t.row_length m
  have hm0 : m.length ≠ 0 := by simpa using hm
  have hsrc : srcA H t.e (.vec m.length ex (t.row m)) = some (m.length, t.row m) := by simp [srcA, hlen]
  cases h with
  | nil =>
    refine ⟨.sl H.next 0 m.length m.length false t.e, H.new (.cells (t.row m) none), ?_, .live H.next none ([] ++ m) m.length (by simp) ?_ hnew (by show H.next < H.next + 1; omega) (fun r h => by cases h) (by simpa using hm), Df.refl.new _⟩
    · simp only [appA, hsrc]
      rw [if_neg hm0, if_pos (by simpa using hs)]
    · simp [Heap.new, upd]
  | vec =>
    refine ⟨.sl H.next 0 m.length m.length false t.e, H.new (.cells (t.row m) none), ?_, .live H.next none ([] ++ m) m.length (by simp) ?_ hnew (by show H.next < H.next + 1; omega) (fun r h => by cases h) (by simpa using hm), Df.refl.new _⟩
    · simp only [appA, hsrc]
      rw [if_neg hm0, if_pos ⟨by simpa using hs, by simp⟩]
      simp
    · simp [Heap.new, upd]
  | live id rel l n hnl hobj hid hidn hrel hne =>
    subst hnl
    have hl : (t.row l).length = l.length * t.e := t.row_length l
    have hne2 : id ≠ H.next := by omega
    have hnx : ((H.kill rel).set id (.cells (t.row l) (some H.next))).next = H.next := by cases rel <;> rfl
    refine ⟨.sl H.next 0 (l.length + m.length) (l.length + m.length) false t.e, ((H.kill rel).set id (.cells (t.row l) (some H.next))).new (.cells (t.row l ++ t.row m) (some id)), ?_, ?_, ((Df.refl.kill fun r h => (hrel r h).1).set _ (.inl hid)).new _⟩
    · simp only [appA, hsrc]
      rw [if_neg hm0]
      simp only [ne_eq, not_true_eq_false, if_false]
      rw [hobj]
      simp only
      rw [if_neg (by omega), if_pos hs]
      simp [hl]
    · refine .live H.next (some id) (l ++ m) _ (by simp) ?_ hnew ?_ (fun r h => ?_) (by simp [hne])
      · simp only [Heap.new, upd]
        rw [if_pos (by rw [hnx]), t.row_append]
      · show H.next < ((H.kill rel).set id (.cells (t.row l) (some H.next))).next + 1
        rw [hnx]; omega
      · cases h
        refine ⟨hid, hne2, ?_⟩
        show id < ((H.kill rel).set id (.cells (t.row l) (some H.next))).next + 1
        rw [hnx]; omega
namespace Ytl
section
variable {s : List Jtm} {k : KF} {Q : AV → Heap → Prop}
theorem ldM {a : Mo} : part true 8 a.cells 0 = some (mono a) := rfl
theorem call_37' {a c : Mo} {H : Heap} : callI tab 37 [mono a, mono c] H = some (mono (Mo.map2 imax a c), H) := callI_of (call_37 (n := 0))
theorem call_49L {v : AV} {l : List Mo} {H0 H : Heap} (ha : Acc tM H0 H v l) (ho : Ow H0 H) (hb : H0.base ≤ H0.next) (hl : l.length < 65536) : Res (callI tab 49 [v] H) fun e H' => Ow H0 H' ∧ ∃ r, ML tM e r ∧ IsMin l r := by
  obtain ⟨w', H3, hz, hw', ho3⟩ := ha.frz ho hb (b := H.base) (by rw [ho.base]; exact hb) 5
  have hz2 := hw'.frz H3.base 5 H3
  obtain ⟨e9, H4, hc, hH4, r', h9', hmin'⟩ := call_49 (H := H3) hw' hl
  subst hH4
  have hz' : frz H.base 6 H v = some (w', H4) := hz
  have hz2' : frz H4.base 6 H4 w' = some (w', H4) := hz2
  have hc9 := callI_frz (H := H) (H1 := H4) (args := [v]) (args' := [w']) tab_49 rfl rfl (by simp [hz']) (by simp [hz2']) hc
  rw [hc9]
  exact .mk ⟨ho3, r', h9', hmin'⟩
theorem l53_1 {v0 v1 : AV} {l2 : List Mo} (hv : ML tM v1 l2) {H0 : Heap} (hb : H0.base ≤ H0.next) (hl2 : l2.length < 65536) {b7 : Nat} (hb7 : H0.next ≤ b7) {a : Mo} {x10 x11 x12 : AV} : ∀ (m j : Nat) (σ : Sig) (H : Heap) (w : AV) (cur : List Mo), l2.length - j = m → j ≤ l2.length → σ 0 = v0 → σ 1 = v1 → σ 5 = w → σ 7 = .ptr b7 0 → σ 10 = x10 → σ 11 = x11 → σ 12 = x12 → σ 16 = v1 → σ 17 = .int .i64 (l2.length : Nat) → σ 18 = .int .i64 (j : Nat) → AccP tM (fun i => H0.next ≤ i ∧ i ≠ b7) H w cur → Ow H0 H → b7 < H.next → H.obj b7 = .cells a.cells none → cur.length + (l2.length - j) < 65536 →
    (∀ σ' H' w', σ' 0 = v0 → σ' 1 = v1 → σ' 5 = w' → σ' 10 = x10 → σ' 11 = x11 → σ' 12 = x12 → AccP tM (fun i => H0.next ≤ i ∧ i ≠ b7) H' w' (cur ++ (l2.drop j).map (Mo.map2 imax a)) → Ow H0 H' → Res (ai (callI tab) s k .nrm σ' H') Q) →
    Res (li (callI tab) L53_1 (.inBlock 2 :: s) k σ H) Q := by
  intro m
  induction m with
  | zero =>
    intro j σ H w cur hm hj h0 h1 h5 h7 h10 h11 h12 h16 h17 h18 ha ho hn7 ho7 hlen hQ
    rw [List.drop_of_length_le (by omega)] at hQ
    obtain ⟨il, hil⟩ : ∃ x, x = Jtm.inLoop L53_1 := ⟨_, rfl⟩; rw [li_eq' il hil]
    simp -implicitDefEqProofs (disch := first | omega | with_unfolding_all exact eqR (Eq.refl _)) [nums, -getElem!_pos, -Int.natCast_add, -Int.natCast_mul, -Int.natCast_ediv, L53_1, S53_0, h0, h1, h5, h7, h10, h11, h12, h16, h17, h18]
    subst hil
    try simp -implicitDefEqProofs (disch := first | omega | with_unfolding_all exact eqR (Eq.refl _)) [nums, -getElem!_pos, -Int.natCast_add, -Int.natCast_mul, -Int.natCast_ediv]
    refine hQ _ _ w ?_ ?_ ?_ ?_ ?_ ?_ (by simpa using ha) ho <;> simp [h0, h1, h5, h10, h11, h12]
  | succ m ih =>
    intro j σ H w cur hm hj h0 h1 h5 h7 h10 h11 h12 h16 h17 h18 ha ho hn7 ho7 hlen hQ
    have hjl : j < l2.length := by omega
    obtain ⟨p, e1, e2⟩ := ml_at hv H hjl
    have hne : (b7 = H.next) = False := eq_false (by omega)
    have d1 : Df (fun i => H0.next ≤ i ∧ i ≠ b7) H ((H.new (.cells Mo.zero.cells none)).set H.next (.cells (l2[j]).cells none)) := (Df.refl.new _).set _ (.inr (Nat.le_refl _))
    have a1 : AccP tM (fun i => H0.next ≤ i ∧ i ≠ b7) ((H.new (.cells Mo.zero.cells none)).set H.next (.cells (l2[j]).cells none)) w cur := ha.frame (by show H.next ≤ H.next + 1; omega) (fun i h1 h2 => by simp only [Heap.new, Heap.set, upd]; rw [if_neg (by omega), if_neg (by omega)]) fun i h _ => h
    obtain ⟨w', H', e3, ha', df⟩ := a1.app (m := [Mo.map2 imax a l2[j]]) (bs := 64) (ex := true) (n := 1) ⟨by show H0.next ≤ H.next + 1; have := ho.next; omega, by show H.next + 1 ≠ b7; omega⟩ (by simp) rfl (by simp; omega)
    rw [show tM.e = 8 from rfl, ← row_one] at e3
    have ho' : Ow H0 H' := (d1.trans df).ow ho hb fun i h => h.1
    have hn' : b7 < H'.next := Nat.lt_of_lt_of_le hn7 (d1.trans df).next
    have ho7' : H'.obj b7 = .cells a.cells none := by rw [(d1.trans df).obj b7 hn7 (fun h => h.2 rfl)]; exact ho7
    obtain ⟨il, hil⟩ : ∃ x, x = Jtm.inLoop L53_1 := ⟨_, rfl⟩; rw [li_eq' il hil]
    simp -implicitDefEqProofs (disch := first | omega | with_unfolding_all exact eqR (Eq.refl _)) [nums, -getElem!_pos, -Int.natCast_add, -Int.natCast_mul, -Int.natCast_ediv, L53_1, S53_0, h0, h1, h5, h7, h10, h11, h12, h16, h17, h18, e1, e2, storeZ, ldM, ho7, hne, call_37', bslR_mono, e3]
    subst hil
    try simp -implicitDefEqProofs (disch := first | omega | with_unfolding_all exact eqR (Eq.refl _)) [nums, -getElem!_pos, -Int.natCast_add, -Int.natCast_mul, -Int.natCast_ediv]
    have hm2 : cur ++ (l2.drop j).map (Mo.map2 imax a) = (cur ++ [Mo.map2 imax a l2[j]]) ++ (l2.drop (j + 1)).map (Mo.map2 imax a) := by rw [List.drop_eq_getElem_cons hjl, List.map_cons, List.append_assoc, List.singleton_append]
    rw [hm2] at hQ
    refine ih (j + 1) _ H' w' _ (by omega) (by omega) ?_ ?_ ?_ ?_ ?_ ?_ ?_ ?_ ?_ ?_ ha' ho' hn' ho7' (by simp; omega) hQ
    all_goals simp [h0, h1, h5, h7, h10, h11, h12, h16, h17]
def lcms (l1 l2 : List Mo) : List Mo := l1.flatMap fun a => l2.map (Mo.map2 imax a)
theorem lcms_cons {a : Mo} {l1 l2 : List Mo} : lcms (a :: l1) l2 = l2.map (Mo.map2 imax a) ++ lcms l1 l2 := by simp [lcms]
theorem lcms_length {l2 : List Mo} : ∀ l1 : List Mo, (lcms l1 l2).length = l1.length * l2.length
  | [] => by simp [lcms]
  | a :: l1 => by rw [lcms_cons, List.length_append, List.length_map, lcms_length l1, List.length_cons, Nat.succ_mul]; omega
theorem l53_4 {v0 v1 : AV} {l1 l2 : List Mo} (hv0 : ML tM v0 l1) (hv : ML tM v1 l2) {H0 : Heap} (hb : H0.base ≤ H0.next) (hl1 : l1.length < 65536) (hl2 : l2.length < 65536) : ∀ (m j : Nat) (σ : Sig) (H : Heap) (w : AV) (cur : List Mo), l1.length - j = m → j ≤ l1.length → σ 0 = v0 → σ 1 = v1 → σ 5 = w → σ 10 = v0 → σ 11 = .int .i64 (l1.length : Nat) → σ 12 = .int .i64 (j : Nat) → AccP tM (fun i => H0.next ≤ i) H w cur → Ow H0 H → cur.length + (l1.length - j) * l2.length < 65536 →
    (∀ σ' H' w', σ' 5 = w' → AccP tM (fun i => H0.next ≤ i) H' w' (cur ++ lcms (l1.drop j) l2) → Ow H0 H' → Res (ai (callI tab) s k .nrm σ' H') Q) →
    Res (li (callI tab) L53_4 (.inBlock 0 :: s) k σ H) Q := by
  intro m
  induction m with
  | zero =>
    intro j σ H w cur hm hj h0 h1 h5 h10 h11 h12 ha ho hlen hQ
    rw [List.drop_of_length_le (by omega)] at hQ
    obtain ⟨il, hil⟩ : ∃ x, x = Jtm.inLoop L53_4 := ⟨_, rfl⟩; rw [li_eq' il hil]
    simp -implicitDefEqProofs (disch := first | omega | with_unfolding_all exact eqR (Eq.refl _)) [nums, -getElem!_pos, -Int.natCast_add, -Int.natCast_mul, -Int.natCast_ediv, L53_4, S53_3, S53_2, h0, h1, h5, h10, h11, h12]
    subst hil
    try simp -implicitDefEqProofs (disch := first | omega | with_unfolding_all exact eqR (Eq.refl _)) [nums, -getElem!_pos, -Int.natCast_add, -Int.natCast_mul, -Int.natCast_ediv]
    refine hQ _ _ w ?_ (by simpa [lcms] using ha) ho <;> simp [h5]
  | succ m ih =>
    intro j σ H w cur hm hj h0 h1 h5 h10 h11 h12 ha ho hlen hQ
    have hjl : j < l1.length := by omega
    obtain ⟨p, e1, e2⟩ := ml_at hv0 H hjl
    have hln := fun H => (hv.rd H).1
    have d1 : Df (fun i => H0.next ≤ i) H ((H.new (.cells Mo.zero.cells none)).set H.next (.cells (l1[j]).cells none)) := (Df.refl.new _).set _ (.inr (Nat.le_refl _))
    have a1 : AccP tM (fun i => H0.next ≤ i ∧ i ≠ H.next) ((H.new (.cells Mo.zero.cells none)).set H.next (.cells (l1[j]).cells none)) w cur := ha.frame (by show H.next ≤ H.next + 1; omega) (fun i h1 h2 => by simp only [Heap.new, Heap.set, upd]; rw [if_neg (by omega), if_neg (by omega)]) fun i h h2 => ⟨h, by omega⟩
    have hmul : (l1.length - j) * l2.length = l2.length + (l1.length - (j + 1)) * l2.length := by rw [show l1.length - j = (l1.length - (j + 1)) + 1 by omega, Nat.succ_mul]; omega
    rw [List.drop_eq_getElem_cons hjl, lcms_cons, ← List.append_assoc] at hQ
    obtain ⟨il, hil⟩ : ∃ x, x = Jtm.inLoop L53_4 := ⟨_, rfl⟩; rw [li_eq' il hil]
    simp -implicitDefEqProofs (disch := first | omega | with_unfolding_all exact eqR (Eq.refl _)) [nums, -getElem!_pos, -Int.natCast_add, -Int.natCast_mul, -Int.natCast_ediv, L53_4, S53_3, h0, h1, h5, h10, h11, h12, e1, e2, storeZ, hln]
    refine l53_1 (v0 := v0) (v1 := v1) hv hb hl2 (b7 := H.next) ho.next (a := l1[j]) (x10 := v0) (x11 := .int .i64 (l1.length : Nat)) (x12 := .int .i64 (j : Nat)) _ 0 _ _ w cur rfl (by omega) ?_ ?_ ?_ ?_ ?_ ?_ ?_ ?_ ?_ ?_ a1 (d1.ow ho hb fun i h => h) ?_ ?_ (by omega) fun σ1 H1 w1 g0 g1 g5 g10 g11 g12 ga go => ?_
    any_goals (first | (simp [h0, h1, h5, h10, h11, h12]; done) | skip)
    simp -implicitDefEqProofs (disch := first | omega | with_unfolding_all exact eqR (Eq.refl _)) [nums, -getElem!_pos, -Int.natCast_add, -Int.natCast_mul, -Int.natCast_ediv, S53_2, g0, g1, g5, g10, g11, g12]
    subst hil
    try simp -implicitDefEqProofs (disch := first | omega | with_unfolding_all exact eqR (Eq.refl _)) [nums, -getElem!_pos, -Int.natCast_add, -Int.natCast_mul, -Int.natCast_ediv]
    refine ih (j + 1) _ H1 w1 _ (by omega) (by omega) ?_ ?_ ?_ ?_ ?_ ?_ (ga.frame (Nat.le_refl _) (fun _ _ _ => rfl) fun i h _ => h.1) go (by simp; omega) hQ
    all_goals simp [g0, g1, g5, g10, g11, g12]
theorem call_53 {v0 v1 : AV} {l1 l2 : List Mo} {H : Heap} (hv0 : ML tM v0 l1) (hv : ML tM v1 l2) (hl1 : l1.length < 65536) (hl2 : l2.length < 65536) (hl : l1.length * l2.length < 65536) : Res (callI tab 53 [v0, v1] H) fun e H' => H' = H ∧ ∃ r, ML tM e r ∧ IsMin (lcms l1 l2) r := by
  have hf1 := hv0.frz
  have hf2 := hv.frz
  have hln := fun H => (hv0.rd H).1
  refine .hide fun Q hQ => .enter tab_53 (by simp [AF53]) (.inr (by simp [hf1, hf2])) ?_
  simp -implicitDefEqProofs (disch := first | omega | with_unfolding_all exact eqR (Eq.refl _)) [nums, -getElem!_pos, -Int.natCast_add, -Int.natCast_mul, -Int.natCast_ediv, AF53, hln]
  refine l53_4 hv0 hv (H0 := H.begin) (Nat.le_refl _) hl1 hl2 _ 0 _ _ .nils [] rfl (by omega) ?_ ?_ ?_ ?_ ?_ ?_ .nil (.refl _) (by simpa using hl) fun σ' H' w' q5 ha ho => ?_
  any_goals (first | (simp; done) | skip)
  have hll : ([] ++ lcms (l1.drop 0) l2).length < 65536 := by
    rw [List.nil_append, List.drop_zero, lcms_length]; exact hl
  simp -implicitDefEqProofs (disch := first | omega | with_unfolding_all exact eqR (Eq.refl _)) [nums, -getElem!_pos, -Int.natCast_add, -Int.natCast_mul, -Int.natCast_ediv, S53_5, q5]
  refine .call (call_49L (ha.acc (H0 := H.begin) fun i h => h) ho (Nat.le_refl _) hll) fun e H2 ⟨ho2, r, hr, hmin⟩ => ?_
  have hf := hr.frz
  have hnn := hr.nonew H.next 3
  have hws : H2.ws = [] := ho2.ws
  simp -implicitDefEqProofs (disch := first | omega | with_unfolding_all exact eqR (Eq.refl _)) [nums, -getElem!_pos, -Int.natCast_add, -Int.natCast_mul, -Int.natCast_ediv, hf, hnn, wrap_quiet hws hnn]
  exact .mk (hQ _ _ ⟨rfl, r, hr, by simpa using hmin⟩)
end
end Ytl
end Go.Mach
set_option linter.unusedSimpArgs false
set_option linter.unusedVariables false
set_option maxRecDepth 100000
namespace Go.Mach.Ytl
open Go.Mach
section
variable {s : List Jtm} {k : KF} {Q : AV → Heap → Prop}
end
end Go.Mach.Ytl
set_option linter.unusedSimpArgs false
set_option linter.unusedVariables false
set_option maxRecDepth 100000
namespace Go.Mach.Ytl
open Go.Mach
section
variable {s : List Jtm} {k : KF} {Q : AV → Heap → Prop}
theorem cmp_three (a b : Mo) : Mo.cmp a b = -1 ∨ Mo.cmp a b = 0 ∨ Mo.cmp a b = 1 := cmp_pm
end
end Go.Mach.Ytl
