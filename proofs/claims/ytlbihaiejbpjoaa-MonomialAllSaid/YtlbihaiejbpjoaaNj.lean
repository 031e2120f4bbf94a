/-
  The sort of the library sorts. By an AI agent.
-/
import Derived.Test.YtlbihaiejbpjoaaNi
set_option linter.unusedSimpArgs false
set_option linter.unusedVariables false
set_option maxRecDepth 100000
namespace Go.Mach.Ytl
open Go.Mach

section
variable {g id len lo : Nat} {ex : Bool} {c : Mo → Mo → Int} {s : List Jtm} {k : KF} {Q : AV → Heap → Prop}


/-- The loop sorts whatever is of length n at most. -/
def PqM (id len lo : Nat) (ex : Bool) (c : Mo → Mo → Int) (g : Nat) (n : Nat) : Prop := ∀ (H0 : Heap) (Q : AV → Heap → Prop) (a b limit : Nat) (wb wp : Bool) (σ : Sig) (H : Heap) (d : Array Mo), b - a ≤ n → σ 0 = .sl id 0 len lo ex 8 → σ 1 = .int .i64 (a : Nat) → σ 2 = .int .i64 (b : Nat) → σ 3 = .int .i64 (limit : Nat) → σ 4 = .fn g [] [] → σ 10 = .bool wb → σ 11 = .bool wp →
    id < H.next → H.obj id = (.cells (tM.arr d) none) → a ≤ b → b ≤ len → limit < 2 ^ 40 → len < 65536 → len ≤ d.size → d.size < 2 ^ 40 → Sort.Below (ltc c) a b d → (∀ H' d', Sort.PermIn a b d d' → Sort.SortedIn (ltc c) a b d' → Wr H H' id (.cells (tM.arr d') none) → Res (some (wrapA H0 (.tup []) H')) Q) →
    Res (li (callI tab) L100_6 [.inBlock 0] (fink [] false H0) σ H) Q
theorem callq_M (hc : CmpM g c) {m : Nat} (ih : PqM id len lo ex c g m) {a b limit : Nat} {H : Heap} {d : Array Mo} (hm : b - a ≤ m) (hid : id < H.next) (hd : H.obj id = (.cells (tM.arr d) none)) (ha : a ≤ b) (hb : b ≤ len) (hlim : limit < 2 ^ 40) (hlen : len < 65536) (hl : len ≤ d.size) (hs : d.size < 2 ^ 40) (hB : Sort.Below (ltc c) a b d) :
    Res (callI tab 100 [.sl id 0 len lo ex 8, .int .i64 a, .int .i64 b, .int .i64 limit, .fn g [] []] H) fun v H' => v = .tup [] ∧ ∃ d', Sort.PermIn a b d d' ∧ Sort.SortedIn (ltc c) a b d' ∧ Wr H H' id (.cells (tM.arr d') none) := by
  refine .hide fun Q hQ => .enter tab_100 (by simp [AF100]) (.inl rfl) ?_
  simp -implicitDefEqProofs (disch := first | omega | with_unfolding_all exact eqR (Eq.refl _)) [nums, -getElem!_pos, -Int.natCast_add, -Int.natCast_mul, -Int.natCast_ediv, AF100]
  refine ih H Q a b limit true true _ _ d hm ?_ ?_ ?_ ?_ ?_ ?_ ?_ hid hd ha hb hlim hlen hl hs hB fun H' d' hp hsd hw => ?_
  any_goals (first | (simp; done) | skip)
  obtain ⟨H2, e, w⟩ := hw.toFx.wrapA (H := H) (v := .tup []) rfl
  rw [e]
  exact .mk (hQ _ _ ⟨rfl, d', hp, hsd, w⟩)


theorem s100_0 (hc : CmpM g c) (hS : Sort.SWO (ltc c)) {m : Nat} (ih : PqM id len lo ex c g m) {H0 : Heap} {a b limit p : Nat} {wb wp : Bool} {σ : Sig} {H : Heap} {d : Array Mo} : σ 0 = .sl id 0 len lo ex 8 → σ 1 = .int .i64 (a : Nat) → σ 2 = .int .i64 (b : Nat) → σ 3 = .int .i64 (limit : Nat) → σ 4 = .fn g [] [] → σ 10 = .bool wb → σ 11 = .bool wp → σ 12 = .int .i64 ((b - a) : Nat) → σ 13 = .int .i64 (p : Nat) →
    id < H.next → H.obj id = (.cells (tM.arr d) none) → a ≤ b → b ≤ len → limit < 2 ^ 40 → len < 65536 → len ≤ d.size → d.size < 2 ^ 40 → Sort.Below (ltc c) a b d → 12 < b - a → b - a ≤ m + 1 → a ≤ p → p < b → (∀ H' d', Sort.PermIn a b d d' → Sort.SortedIn (ltc c) a b d' → Wr H H' id (.cells (tM.arr d') none) → Res (some (wrapA H0 (.tup []) H')) Q) →
    Res (gi (callI tab) S100_0 [.inBlock 1, .inLoop L100_6, .inBlock 0] (fink [] false H0) σ H) Q := by
  intro h0 h1 h2 h3 h4 h10 h11 h12 h13 hid hd ha hb hlim hlen hl hs hB hbig hm hp1 hp2 hfin
  have hpt := Sort.partition_holds (ltc c) hS d a b p hp1 hp2 (by omega)
  simp -implicitDefEqProofs (disch := first | omega | with_unfolding_all exact eqR (Eq.refl _)) [nums, -getElem!_pos, -Int.natCast_add, -Int.natCast_mul, -Int.natCast_ediv, S100_0, h0, h1, h2, h3, h4, h10, h11, h12, h13]
  refine .call (call_116 (len := len) (lo := lo) (ex := ex) hc hid hd hb (by omega) hp2 hl hs) fun e H1 ⟨he, hw⟩ => ?_
  subst he
  obtain ⟨g1, g2, g3, g4, g5, g6, g7⟩ := Sort.round_part hS (Sort.partition_holds (ltc c)) hp1 hp2 (by omega) hB (mid := (Sort.partition (ltc c) d a b p).1) (ap := (Sort.partition (ltc c) d a b p).2.1) (d4 := (Sort.partition (ltc c) d a b p).2.2) rfl
  clear hpt
  generalize (Sort.partition (ltc c) d a b p).1 = mid at *
  generalize (Sort.partition (ltc c) d a b p).2.1 = ap at *
  generalize (Sort.partition (ltc c) d a b p).2.2 = d4 at *
  have hid1 : id < H1.next := by rw [hw.nxt]; exact hid
  by_cases c1 : mid - a < b - mid
  · simp -implicitDefEqProofs (disch := first | omega | with_unfolding_all exact eqR (Eq.refl _)) [nums, -getElem!_pos, -Int.natCast_add, -Int.natCast_mul, -Int.natCast_ediv, h0, h1, h2, h3, h4, h10, h11, h12, h13]
    refine .call (callq_M hc ih (by omega) hid1 hw.at (by omega) (by omega) hlim hlen (by omega) (by omega) g4) fun e H2 ⟨he, L, k1, k2, hw2⟩ => ?_
    subst he
    obtain ⟨g8, g9⟩ := g6 L k1 k2
    have hsz : L.size = d.size := k1.1.trans g3
    simp -implicitDefEqProofs (disch := first | omega | with_unfolding_all exact eqR (Eq.refl _)) [nums, -getElem!_pos, -Int.natCast_add, -Int.natCast_mul, -Int.natCast_ediv, h0, h1, h2, h3, h4, h10, h11, h12, h13]
    refine ih H0 Q (mid + 1) b limit (decide ((b - a) / 8 ≤ mid - a)) ap _ _ L (by omega) ?_ ?_ ?_ ?_ ?_ ?_ ?_ (by rw [hw2.nxt]; exact hid1) hw2.at (by omega) hb hlim hlen (by omega) (by omega) g8 fun H' R r1 r2 hw3 => ?_
    any_goals (first | (simp [h0, h1, h2, h3, h4, h10, h11, h12, h13]; done) | skip)
    obtain ⟨g10, g11⟩ := g9 R r1 r2
    exact hfin H' R g10 g11 (hw.trans (hw2.trans hw3))
  · simp -implicitDefEqProofs (disch := first | omega | with_unfolding_all exact eqR (Eq.refl _)) [nums, -getElem!_pos, -Int.natCast_add, -Int.natCast_mul, -Int.natCast_ediv, h0, h1, h2, h3, h4, h10, h11, h12, h13]
    refine .call (callq_M hc ih (by omega) hid1 hw.at (by omega) (by omega) hlim hlen (by omega) (by omega) g5) fun e H2 ⟨he, L, k1, k2, hw2⟩ => ?_
    subst he
    obtain ⟨g8, g9⟩ := g7 L k1 k2
    have hsz : L.size = d.size := k1.1.trans g3
    simp -implicitDefEqProofs (disch := first | omega | with_unfolding_all exact eqR (Eq.refl _)) [nums, -getElem!_pos, -Int.natCast_add, -Int.natCast_mul, -Int.natCast_ediv, h0, h1, h2, h3, h4, h10, h11, h12, h13]
    refine ih H0 Q a mid limit (decide ((b - a) / 8 ≤ b - mid)) ap _ _ L (by omega) ?_ ?_ ?_ ?_ ?_ ?_ ?_ (by rw [hw2.nxt]; exact hid1) hw2.at (by omega) (by omega) hlim hlen (by omega) (by omega) g8 fun H' R r1 r2 hw3 => ?_
    any_goals (first | (simp [h0, h1, h2, h3, h4, h10, h11, h12, h13]; done) | skip)
    obtain ⟨g10, g11⟩ := g9 R r1 r2
    exact hfin H' R g10 g11 (hw.trans (hw2.trans hw3))

theorem s100_1 (hc : CmpM g c) (hS : Sort.SWO (ltc c)) {m : Nat} (ih : PqM id len lo ex c g m) {H0 : Heap} {a b limit p : Nat} {wb wp : Bool} {σ : Sig} {H : Heap} {d : Array Mo} : σ 0 = .sl id 0 len lo ex 8 → σ 1 = .int .i64 (a : Nat) → σ 2 = .int .i64 (b : Nat) → σ 3 = .int .i64 (limit : Nat) → σ 4 = .fn g [] [] → σ 10 = .bool wb → σ 11 = .bool wp → σ 12 = .int .i64 ((b - a) : Nat) → σ 13 = .int .i64 (p : Nat) →
    id < H.next → H.obj id = (.cells (tM.arr d) none) → a ≤ b → b ≤ len → limit < 2 ^ 40 → len < 65536 → len ≤ d.size → d.size < 2 ^ 40 → Sort.Below (ltc c) a b d → 12 < b - a → b - a ≤ m + 1 → a ≤ p → p < b → (∀ H' d', Sort.PermIn a b d d' → Sort.SortedIn (ltc c) a b d' → Wr H H' id (.cells (tM.arr d') none) → Res (some (wrapA H0 (.tup []) H')) Q) →
    Res (gi (callI tab) S100_1 [.inBlock 1, .inLoop L100_6, .inBlock 0] (fink [] false H0) σ H) Q := by
  intro h0 h1 h2 h3 h4 h10 h11 h12 h13 hid hd ha hb hlim hlen hl hs hB hbig hm hp1 hp2 hfin
  by_cases c1 : 0 < a
  · by_cases c2 : c d[a - 1]! d[p]! < 0
    · simp -implicitDefEqProofs (disch := first | omega | with_unfolding_all exact eqR (Eq.refl _)) [nums, -getElem!_pos, -Int.natCast_add, -Int.natCast_mul, -Int.natCast_ediv, S100_1, h0, h1, h2, h3, h4, h10, h11, h12, h13, hd, hc _ _, loadM, storeM, storeM2]
      refine s100_0 (len := len) (lo := lo) (ex := ex) hc hS ih (wb := wb) (wp := wp) (limit := limit) ?_ ?_ ?_ ?_ ?_ ?_ ?_ ?_ ?_ hid hd ha hb hlim hlen hl hs hB hbig hm hp1 hp2 hfin
      all_goals simp [h0, h1, h2, h3, h4, h10, h11, h12, h13]
    · have hnl : (ltc c) d[a - 1]! d[p]! = false := by simp [ltc, c2]
      obtain ⟨g1, g2, g3, g4, g5⟩ := Sort.round_eq hS (Sort.partitionEqual_holds (ltc c)) (mid := (Sort.partitionEqual (ltc c) d a b p).1) (d4 := (Sort.partitionEqual (ltc c) d a b p).2) c1 hp1 hp2 (by omega) hB hnl rfl
      simp -implicitDefEqProofs (disch := first | omega | with_unfolding_all exact eqR (Eq.refl _)) [nums, -getElem!_pos, -Int.natCast_add, -Int.natCast_mul, -Int.natCast_ediv, S100_1, h0, h1, h2, h3, h4, h10, h11, h12, h13, hd, hc _ _, loadM, storeM, storeM2]
      refine .call (call_115 (len := len) (lo := lo) (ex := ex) hc hid hd hb (by omega) hp2 hl hs) fun e H1 ⟨he, hw⟩ => ?_
      subst he
      generalize (Sort.partitionEqual (ltc c) d a b p).1 = mid at *
      generalize (Sort.partitionEqual (ltc c) d a b p).2 = d4 at *
      simp -implicitDefEqProofs (disch := first | omega | with_unfolding_all exact eqR (Eq.refl _)) [nums, -getElem!_pos, -Int.natCast_add, -Int.natCast_mul, -Int.natCast_ediv, h0, h1, h2, h3, h4, h10, h11, h12, h13]
      refine ih H0 Q mid b limit wb wp _ _ d4 (by omega) ?_ ?_ ?_ ?_ ?_ ?_ ?_ (by rw [hw.nxt]; exact hid) hw.at g2 hb hlim hlen (by omega) (by omega) g4 fun H' R r1 r2 hw3 => ?_
      any_goals (first | (simp [h0, h1, h2, h3, h4, h10, h11, h12, h13]; done) | skip)
      obtain ⟨g10, g11⟩ := g5 R r1 r2
      exact hfin H' R g10 g11 (hw.trans hw3)
  · simp -implicitDefEqProofs (disch := first | omega | with_unfolding_all exact eqR (Eq.refl _)) [nums, -getElem!_pos, -Int.natCast_add, -Int.natCast_mul, -Int.natCast_ediv, S100_1, h0, h1, h2, h3, h4, h10, h11, h12, h13, hd, hc _ _, loadM, storeM, storeM2]
    refine s100_0 (len := len) (lo := lo) (ex := ex) hc hS ih (wb := wb) (wp := wp) (limit := limit) ?_ ?_ ?_ ?_ ?_ ?_ ?_ ?_ ?_ hid hd ha hb hlim hlen hl hs hB hbig hm hp1 hp2 hfin
    all_goals simp [h0, h1, h2, h3, h4, h10, h11, h12, h13]


theorem s100_2 (hc : CmpM g c) (hS : Sort.SWO (ltc c)) {m : Nat} (ih : PqM id len lo ex c g m) {H0 : Heap} {a b limit p : Nat} {wb wp : Bool} {hint : Int} {σ : Sig} {H : Heap} {d : Array Mo} : σ 0 = .sl id 0 len lo ex 8 → σ 1 = .int .i64 (a : Nat) → σ 2 = .int .i64 (b : Nat) → σ 3 = .int .i64 (limit : Nat) → σ 4 = .fn g [] [] → σ 10 = .bool wb → σ 11 = .bool wp → σ 12 = .int .i64 ((b - a) : Nat) → σ 13 = .int .i64 (p : Nat) → σ 14 = .int .i64 hint →
    id < H.next → H.obj id = (.cells (tM.arr d) none) → a ≤ b → b ≤ len → limit < 2 ^ 40 → len < 65536 → len ≤ d.size → d.size < 2 ^ 40 → Sort.Below (ltc c) a b d → 12 < b - a → b - a ≤ m + 1 → a ≤ p → p < b → (∀ H' d', Sort.PermIn a b d d' → Sort.SortedIn (ltc c) a b d' → Wr H H' id (.cells (tM.arr d') none) → Res (some (wrapA H0 (.tup []) H')) Q) →
    Res (gi (callI tab) S100_2 [.inBlock 1, .inLoop L100_6, .inBlock 0] (fink [] false H0) σ H) Q := by
  intro h0 h1 h2 h3 h4 h10 h11 h12 h13 h14 hid hd ha hb hlim hlen hl hs hB hbig hm hp1 hp2 hfin
  by_cases c1 : wb = true ∧ wp = true ∧ hint = 1
  · obtain ⟨rfl, rfl, rfl⟩ := c1
    simp -implicitDefEqProofs (disch := first | omega | with_unfolding_all exact eqR (Eq.refl _)) [nums, -getElem!_pos, -Int.natCast_add, -Int.natCast_mul, -Int.natCast_ediv, S100_2, h0, h1, h2, h3, h4, h10, h11, h12, h13, h14]
    refine .call (call_114 (len := len) (lo := lo) (ex := ex) hc hid hd hb (by omega) hl hs) fun e H1 ⟨he, hw⟩ => ?_
    subst he
    obtain ⟨q1, q2⟩ := Sort.partialInsertionSort_holds hS d a b (by omega) (by omega) hB
    generalize (Sort.partialInsertionSort (ltc c) d a b).1 = d1 at *
    generalize (Sort.partialInsertionSort (ltc c) d a b).2 = bo at *
    cases bo with
    | true =>
      simp -implicitDefEqProofs (disch := first | omega | with_unfolding_all exact eqR (Eq.refl _)) [nums, -getElem!_pos, -Int.natCast_add, -Int.natCast_mul, -Int.natCast_ediv, h0, h1, h2, h3, h4, h10, h11, h12, h13, h14]
      exact hfin H1 d1 q1 (q2 rfl) hw
    | false =>
      simp -implicitDefEqProofs (disch := first | omega | with_unfolding_all exact eqR (Eq.refl _)) [nums, -getElem!_pos, -Int.natCast_add, -Int.natCast_mul, -Int.natCast_ediv, h0, h1, h2, h3, h4, h10, h11, h12, h13, h14]
      refine s100_1 (len := len) (lo := lo) (ex := ex) (d := d1) hc hS ih (wb := true) (wp := true) (limit := limit) ?_ ?_ ?_ ?_ ?_ ?_ ?_ ?_ ?_ (by rw [hw.nxt]; exact hid) hw.at ha hb hlim hlen (by rw [q1.1]; exact hl) (by rw [q1.1]; exact hs) (hB.perm (by omega) q1) hbig hm hp1 hp2 fun H' R r1 r2 hw3 => hfin H' R (Sort.permIn_trans _ _ _ _ _ q1 r1) r2 (hw.trans hw3)
      all_goals simp [h0, h1, h2, h3, h4, h10, h11, h12, h13, h14]
  · cases wb with
    | false =>
      simp -implicitDefEqProofs (disch := first | omega | with_unfolding_all exact eqR (Eq.refl _)) [nums, -getElem!_pos, -Int.natCast_add, -Int.natCast_mul, -Int.natCast_ediv, S100_2, h0, h1, h2, h3, h4, h10, h11, h12, h13, h14]
      refine s100_1 (len := len) (lo := lo) (ex := ex) hc hS ih (wb := false) (wp := wp) (limit := limit) ?_ ?_ ?_ ?_ ?_ ?_ ?_ ?_ ?_ hid hd ha hb hlim hlen hl hs hB hbig hm hp1 hp2 hfin
      all_goals simp [h0, h1, h2, h3, h4, h10, h11, h12, h13, h14]
    | true =>
      cases wp with
      | false =>
        simp -implicitDefEqProofs (disch := first | omega | with_unfolding_all exact eqR (Eq.refl _)) [nums, -getElem!_pos, -Int.natCast_add, -Int.natCast_mul, -Int.natCast_ediv, S100_2, h0, h1, h2, h3, h4, h10, h11, h12, h13, h14]
        refine s100_1 (len := len) (lo := lo) (ex := ex) hc hS ih (wb := true) (wp := false) (limit := limit) ?_ ?_ ?_ ?_ ?_ ?_ ?_ ?_ ?_ hid hd ha hb hlim hlen hl hs hB hbig hm hp1 hp2 hfin
        all_goals simp [h0, h1, h2, h3, h4, h10, h11, h12, h13, h14]
      | true =>
        have c2 : hint ≠ 1 := fun h => c1 ⟨rfl, rfl, h⟩
        simp -implicitDefEqProofs (disch := first | omega | with_unfolding_all exact eqR (Eq.refl _)) [nums, -getElem!_pos, -Int.natCast_add, -Int.natCast_mul, -Int.natCast_ediv, S100_2, h0, h1, h2, h3, h4, h10, h11, h12, h13, h14]
        refine s100_1 (len := len) (lo := lo) (ex := ex) hc hS ih (wb := true) (wp := true) (limit := limit) ?_ ?_ ?_ ?_ ?_ ?_ ?_ ?_ ?_ hid hd ha hb hlim hlen hl hs hB hbig hm hp1 hp2 hfin
        all_goals simp [h0, h1, h2, h3, h4, h10, h11, h12, h13, h14]


theorem s100_3 (hc : CmpM g c) (hS : Sort.SWO (ltc c)) {m : Nat} (ih : PqM id len lo ex c g m) {H0 : Heap} {a b limit : Nat} {wb wp : Bool} {σ : Sig} {H : Heap} {d : Array Mo} : σ 0 = .sl id 0 len lo ex 8 → σ 1 = .int .i64 (a : Nat) → σ 2 = .int .i64 (b : Nat) → σ 3 = .int .i64 (limit : Nat) → σ 4 = .fn g [] [] → σ 10 = .bool wb → σ 11 = .bool wp → σ 12 = .int .i64 ((b - a) : Nat) →
    id < H.next → H.obj id = (.cells (tM.arr d) none) → a ≤ b → b ≤ len → limit < 2 ^ 40 → len < 65536 → len ≤ d.size → d.size < 2 ^ 40 → Sort.Below (ltc c) a b d → 12 < b - a → b - a ≤ m + 1 → (∀ H' d', Sort.PermIn a b d d' → Sort.SortedIn (ltc c) a b d' → Wr H H' id (.cells (tM.arr d') none) → Res (some (wrapA H0 (.tup []) H')) Q) →
    Res (gi (callI tab) S100_3 [.inBlock 1, .inLoop L100_6, .inBlock 0] (fink [] false H0) σ H) Q := by
  intro h0 h1 h2 h3 h4 h10 h11 h12 hid hd ha hb hlim hlen hl hs hB hbig hm hfin
  simp -implicitDefEqProofs (disch := first | omega | with_unfolding_all exact eqR (Eq.refl _)) [nums, -getElem!_pos, -Int.natCast_add, -Int.natCast_mul, -Int.natCast_ediv, S100_3, h0, h1, h2, h3, h4, h10, h11, h12]
  refine .call (call_112 (len := len) (lo := lo) (ex := ex) hc hid hd hb hbig hl hs) fun e H1 ⟨hH, p, hint, he, hp1, hp2⟩ => ?_
  subst he hH
  by_cases c1 : hint = 2
  · subst c1
    simp -implicitDefEqProofs (disch := first | omega | with_unfolding_all exact eqR (Eq.refl _)) [nums, -getElem!_pos, -Int.natCast_add, -Int.natCast_mul, -Int.natCast_ediv, h0, h1, h2, h3, h4, h10, h11, h12]
    refine .call (call_113 (len := len) (lo := lo) (ex := ex) hid hd hb (by omega) hl hs) fun e H1 ⟨he, hw⟩ => ?_
    subst he
    have q1 := Sort.reverseRange_holds d a b ha (by omega)
    generalize Sort.reverseRange d a b = d1 at *
    simp -implicitDefEqProofs (disch := first | omega | with_unfolding_all exact eqR (Eq.refl _)) [nums, -getElem!_pos, -Int.natCast_add, -Int.natCast_mul, -Int.natCast_ediv, h0, h1, h2, h3, h4, h10, h11, h12]
    refine s100_2 (len := len) (lo := lo) (ex := ex) (d := d1) hc hS ih (wb := wb) (wp := wp) (limit := limit) (p := b - 1 - (p - a)) (hint := 1) ?_ ?_ ?_ ?_ ?_ ?_ ?_ ?_ ?_ ?_ (by rw [hw.nxt]; exact hid) hw.at ha hb hlim hlen (by rw [q1.1]; exact hl) (by rw [q1.1]; exact hs) (hB.perm (by omega) q1) hbig hm (by omega) (by omega) fun H' R r1 r2 hw3 => hfin H' R (Sort.permIn_trans _ _ _ _ _ q1 r1) r2 (hw.trans hw3)
    all_goals simp [h0, h1, h2, h3, h4, h10, h11, h12]
  · simp -implicitDefEqProofs (disch := first | omega | with_unfolding_all exact eqR (Eq.refl _)) [nums, -getElem!_pos, -Int.natCast_add, -Int.natCast_mul, -Int.natCast_ediv, h0, h1, h2, h3, h4, h10, h11, h12]
    refine s100_2 (len := len) (lo := lo) (ex := ex) hc hS ih (wb := wb) (wp := wp) (limit := limit) (p := p) (hint := hint) ?_ ?_ ?_ ?_ ?_ ?_ ?_ ?_ ?_ ?_ hid hd ha hb hlim hlen hl hs hB hbig hm hp1 hp2 hfin
    all_goals simp [h0, h1, h2, h3, h4, h10, h11, h12]


theorem s100_4 (hc : CmpM g c) (hS : Sort.SWO (ltc c)) {m : Nat} (ih : PqM id len lo ex c g m) {H0 : Heap} {a b limit : Nat} {wb wp : Bool} {σ : Sig} {H : Heap} {d : Array Mo} : σ 0 = .sl id 0 len lo ex 8 → σ 1 = .int .i64 (a : Nat) → σ 2 = .int .i64 (b : Nat) → σ 3 = .int .i64 (limit : Nat) → σ 4 = .fn g [] [] → σ 10 = .bool wb → σ 11 = .bool wp → σ 12 = .int .i64 ((b - a) : Nat) →
    id < H.next → H.obj id = (.cells (tM.arr d) none) → a ≤ b → b ≤ len → limit < 2 ^ 40 → len < 65536 → len ≤ d.size → d.size < 2 ^ 40 → Sort.Below (ltc c) a b d → 12 < b - a → b - a ≤ m + 1 → limit ≠ 0 → (∀ H' d', Sort.PermIn a b d d' → Sort.SortedIn (ltc c) a b d' → Wr H H' id (.cells (tM.arr d') none) → Res (some (wrapA H0 (.tup []) H')) Q) →
    Res (gi (callI tab) S100_4 [.inBlock 1, .inLoop L100_6, .inBlock 0] (fink [] false H0) σ H) Q := by
  intro h0 h1 h2 h3 h4 h10 h11 h12 hid hd ha hb hlim hlen hl hs hB hbig hm hz hfin
  cases wb with
  | true =>
    simp -implicitDefEqProofs (disch := first | omega | with_unfolding_all exact eqR (Eq.refl _)) [nums, -getElem!_pos, -Int.natCast_add, -Int.natCast_mul, -Int.natCast_ediv, S100_4, h0, h1, h2, h3, h4, h10, h11, h12]
    refine s100_3 (len := len) (lo := lo) (ex := ex) hc hS ih (wb := true) (wp := wp) (limit := limit) ?_ ?_ ?_ ?_ ?_ ?_ ?_ ?_ hid hd ha hb hlim hlen hl hs hB hbig hm hfin
    all_goals simp [h0, h1, h2, h3, h4, h10, h11, h12]
  | false =>
    simp -implicitDefEqProofs (disch := first | omega | with_unfolding_all exact eqR (Eq.refl _)) [nums, -getElem!_pos, -Int.natCast_add, -Int.natCast_mul, -Int.natCast_ediv, S100_4, h0, h1, h2, h3, h4, h10, h11, h12]
    refine .call (call_111 (len := len) (lo := lo) (ex := ex) hid hd hb (by omega) (by omega) hl hs) fun e H1 ⟨he, d1, q1, hw⟩ => ?_
    subst he
    simp -implicitDefEqProofs (disch := first | omega | with_unfolding_all exact eqR (Eq.refl _)) [nums, -getElem!_pos, -Int.natCast_add, -Int.natCast_mul, -Int.natCast_ediv, h0, h1, h2, h3, h4, h10, h11, h12]
    refine s100_3 (len := len) (lo := lo) (ex := ex) (d := d1) hc hS ih (wb := false) (wp := wp) (limit := limit - 1) ?_ ?_ ?_ ?_ ?_ ?_ ?_ ?_ (by rw [hw.nxt]; exact hid) hw.at ha hb (by omega) hlen (by rw [q1.1]; exact hl) (by rw [q1.1]; exact hs) (hB.perm (by omega) q1) hbig hm fun H' R r1 r2 hw3 => hfin H' R (Sort.permIn_trans _ _ _ _ _ q1 r1) r2 (hw.trans hw3)
    all_goals simp [h0, h1, h2, h3, h4, h10, h11, h12]


theorem pq_M (hc : CmpM g c) (hS : Sort.SWO (ltc c)) (m : Nat) : PqM id len lo ex c g m := by
  induction m with
  | zero =>
    intro H0 Q a b limit wb wp σ H d hm h0 h1 h2 h3 h4 h10 h11 hid hd ha hb hlim hlen hl hs hB hfin
    obtain ⟨il, hil⟩ : ∃ x, x = Jtm.inLoop L100_6 := ⟨_, rfl⟩; rw [li_eq' il hil]
    simp -implicitDefEqProofs (disch := first | omega | with_unfolding_all exact eqR (Eq.refl _)) [nums, -getElem!_pos, -Int.natCast_add, -Int.natCast_mul, -Int.natCast_ediv, L100_6, h0, h1, h2, h3, h4, h10, h11]
    refine .call (call_109 (len := len) (lo := lo) (ex := ex) hc hid hd hb ha hl hs) fun e H1 ⟨he, hw⟩ => ?_
    subst he
    obtain ⟨q1, q2⟩ := Sort.insertionSort_holds hS d a b ha (by omega)
    simp -implicitDefEqProofs (disch := first | omega | with_unfolding_all exact eqR (Eq.refl _)) [nums, -getElem!_pos, -Int.natCast_add, -Int.natCast_mul, -Int.natCast_ediv, h0, h1, h2, h3, h4, h10, h11]
    subst hil
    try simp -implicitDefEqProofs (disch := first | omega | with_unfolding_all exact eqR (Eq.refl _)) [nums, -getElem!_pos, -Int.natCast_add, -Int.natCast_mul, -Int.natCast_ediv]
    exact hfin _ _ q1 q2 hw
  | succ m ih =>
    intro H0 Q a b limit wb wp σ H d hm h0 h1 h2 h3 h4 h10 h11 hid hd ha hb hlim hlen hl hs hB hfin
    by_cases c1 : b - a ≤ 12
    · obtain ⟨il, hil⟩ : ∃ x, x = Jtm.inLoop L100_6 := ⟨_, rfl⟩; rw [li_eq' il hil]
      simp -implicitDefEqProofs (disch := first | omega | with_unfolding_all exact eqR (Eq.refl _)) [nums, -getElem!_pos, -Int.natCast_add, -Int.natCast_mul, -Int.natCast_ediv, L100_6, h0, h1, h2, h3, h4, h10, h11]
      refine .call (call_109 (len := len) (lo := lo) (ex := ex) hc hid hd hb ha hl hs) fun e H1 ⟨he, hw⟩ => ?_
      subst he
      obtain ⟨q1, q2⟩ := Sort.insertionSort_holds hS d a b ha (by omega)
      simp -implicitDefEqProofs (disch := first | omega | with_unfolding_all exact eqR (Eq.refl _)) [nums, -getElem!_pos, -Int.natCast_add, -Int.natCast_mul, -Int.natCast_ediv, h0, h1, h2, h3, h4, h10, h11]
      subst hil
      try simp -implicitDefEqProofs (disch := first | omega | with_unfolding_all exact eqR (Eq.refl _)) [nums, -getElem!_pos, -Int.natCast_add, -Int.natCast_mul, -Int.natCast_ediv]
      exact hfin _ _ q1 q2 hw
    · by_cases c2 : limit = 0
      · subst c2
        obtain ⟨il, hil⟩ : ∃ x, x = Jtm.inLoop L100_6 := ⟨_, rfl⟩; rw [li_eq' il hil]
        simp -implicitDefEqProofs (disch := first | omega | with_unfolding_all exact eqR (Eq.refl _)) [nums, -getElem!_pos, -Int.natCast_add, -Int.natCast_mul, -Int.natCast_ediv, L100_6, S100_5, h0, h1, h2, h3, h4, h10, h11]
        refine .call (call_110 (len := len) (lo := lo) (ex := ex) hc hid hd hb (by omega) hl hs) fun e H1 ⟨he, hw⟩ => ?_
        subst he
        obtain ⟨q1, q2⟩ := Sort.heapSort_holds hS d a b ha (by omega)
        simp -implicitDefEqProofs (disch := first | omega | with_unfolding_all exact eqR (Eq.refl _)) [nums, -getElem!_pos, -Int.natCast_add, -Int.natCast_mul, -Int.natCast_ediv, h0, h1, h2, h3, h4, h10, h11]
        subst hil
        try simp -implicitDefEqProofs (disch := first | omega | with_unfolding_all exact eqR (Eq.refl _)) [nums, -getElem!_pos, -Int.natCast_add, -Int.natCast_mul, -Int.natCast_ediv]
        exact hfin _ _ q1 q2 hw
      · obtain ⟨il, hil⟩ : ∃ x, x = Jtm.inLoop L100_6 := ⟨_, rfl⟩; rw [li_eq' il hil]
        simp -implicitDefEqProofs (disch := first | omega | with_unfolding_all exact eqR (Eq.refl _)) [nums, -getElem!_pos, -Int.natCast_add, -Int.natCast_mul, -Int.natCast_ediv, L100_6, S100_5, h0, h1, h2, h3, h4, h10, h11]
        subst hil
        refine s100_4 (len := len) (lo := lo) (ex := ex) hc hS ih (wb := wb) (wp := wp) (limit := limit) ?_ ?_ ?_ ?_ ?_ ?_ ?_ ?_ hid hd ha hb hlim hlen hl hs hB (by omega) hm c2 hfin
        all_goals simp [h0, h1, h2, h3, h4, h10, h11]


/-- The sort: what it leaves is a sorted permutation. -/
theorem call_70 (hc : CmpM g c) (hS : Sort.SWO (ltc c)) {H : Heap} {d : Array Mo} (hid : id < H.next) (hd : H.obj id = (.cells (tM.arr d) none)) (hlen : len < 65536) (hl : len ≤ d.size) (hs : d.size < 2 ^ 40) :
    Res (callI tab 70 [.sl id 0 len lo ex 8, .fn g [] []] H) fun v H' => v = .tup [] ∧ ∃ d', Sort.PermIn 0 len d d' ∧ Sort.SortedIn (ltc c) 0 len d' ∧ Wr H H' id (.cells (tM.arr d') none) := by
  refine .hide fun Q hQ => .enter tab_70 (by simp [AF70]) (.inl rfl) ?_
  have e0 : IntKind.u64.wrap (len : Int) = len := wrap64 (by omega)
  have b : Sort.bitsLen len ≤ 60 := (Sort.bitsLen_le_iff len 60).2 (by omega)
  simp -implicitDefEqProofs (disch := first | omega | with_unfolding_all exact eqR (Eq.refl _)) [nums, -getElem!_pos, -Int.natCast_add, -Int.natCast_mul, -Int.natCast_ediv, AF70, e0, call_101 hlen]
  refine .call (callq_M (a := 0) (b := len) (limit := Sort.bitsLen len) (len := len) (lo := lo) (ex := ex) (H := H.begin) (d := d) hc (pq_M hc hS len) (by omega) hid hd (by omega) (Nat.le_refl _) (by omega) hlen hl hs (.inl rfl)) fun e H1 ⟨he, d', q1, q2, hw⟩ => ?_
  subst he
  simp -implicitDefEqProofs (disch := first | omega | with_unfolding_all exact eqR (Eq.refl _)) [nums, -getElem!_pos, -Int.natCast_add, -Int.natCast_mul, -Int.natCast_ediv]
  obtain ⟨H2, e, w⟩ := hw.toFx.wrapA (H := H) (v := .tup []) rfl
  rw [e]
  exact .mk (hQ _ _ ⟨rfl, d', q1, q2, w⟩)


/-- The loop sorts whatever is of length n at most. -/
def PqB (id len lo : Nat) (ex : Bool) (n : Nat) : Prop := ∀ (H0 : Heap) (Q : AV → Heap → Prop) (a b limit : Nat) (wb wp : Bool) (σ : Sig) (H : Heap) (d : Array Int), b - a ≤ n → σ 0 = .sl id 0 len lo ex 1 → σ 1 = .int .i64 (a : Nat) → σ 2 = .int .i64 (b : Nat) → σ 3 = .int .i64 (limit : Nat) → σ 8 = .bool wb → σ 9 = .bool wp →
    id < H.next → H.obj id = (.cells (tB.arr d) none) → a ≤ b → b ≤ len → limit < 2 ^ 40 → len < 65536 → len ≤ d.size → d.size < 2 ^ 40 → Sort.Below ltB a b d → (∀ H' d', Sort.PermIn a b d d' → Sort.SortedIn ltB a b d' → Wr H H' id (.cells (tB.arr d') none) → Res (some (wrapA H0 (.tup []) H')) Q) →
    Res (li (callI tab) L119_6 [.inBlock 0] (fink [] false H0) σ H) Q
theorem callq_B {m : Nat} (ih : PqB id len lo ex m) {a b limit : Nat} {H : Heap} {d : Array Int} (hm : b - a ≤ m) (hid : id < H.next) (hd : H.obj id = (.cells (tB.arr d) none)) (ha : a ≤ b) (hb : b ≤ len) (hlim : limit < 2 ^ 40) (hlen : len < 65536) (hl : len ≤ d.size) (hs : d.size < 2 ^ 40) (hB : Sort.Below ltB a b d) :
    Res (callI tab 119 [.sl id 0 len lo ex 1, .int .i64 a, .int .i64 b, .int .i64 limit] H) fun v H' => v = .tup [] ∧ ∃ d', Sort.PermIn a b d d' ∧ Sort.SortedIn ltB a b d' ∧ Wr H H' id (.cells (tB.arr d') none) := by
  refine .hide fun Q hQ => .enter tab_119 (by simp [AF119]) (.inl rfl) ?_
  simp -implicitDefEqProofs (disch := first | omega | with_unfolding_all exact eqR (Eq.refl _)) [nums, -getElem!_pos, -Int.natCast_add, -Int.natCast_mul, -Int.natCast_ediv, AF119]
  refine ih H Q a b limit true true _ _ d hm ?_ ?_ ?_ ?_ ?_ ?_ hid hd ha hb hlim hlen hl hs hB fun H' d' hp hsd hw => ?_
  any_goals (first | (simp; done) | skip)
  obtain ⟨H2, e, w⟩ := hw.toFx.wrapA (H := H) (v := .tup []) rfl
  rw [e]
  exact .mk (hQ _ _ ⟨rfl, d', hp, hsd, w⟩)


theorem s119_0 (hS : Sort.SWO ltB) {m : Nat} (ih : PqB id len lo ex m) {H0 : Heap} {a b limit p : Nat} {wb wp : Bool} {σ : Sig} {H : Heap} {d : Array Int} : σ 0 = .sl id 0 len lo ex 1 → σ 1 = .int .i64 (a : Nat) → σ 2 = .int .i64 (b : Nat) → σ 3 = .int .i64 (limit : Nat) → σ 8 = .bool wb → σ 9 = .bool wp → σ 10 = .int .i64 ((b - a) : Nat) → σ 11 = .int .i64 (p : Nat) →
    id < H.next → H.obj id = (.cells (tB.arr d) none) → a ≤ b → b ≤ len → limit < 2 ^ 40 → len < 65536 → len ≤ d.size → d.size < 2 ^ 40 → Sort.Below ltB a b d → 12 < b - a → b - a ≤ m + 1 → a ≤ p → p < b → (∀ H' d', Sort.PermIn a b d d' → Sort.SortedIn ltB a b d' → Wr H H' id (.cells (tB.arr d') none) → Res (some (wrapA H0 (.tup []) H')) Q) →
    Res (gi (callI tab) S119_0 [.inBlock 1, .inLoop L119_6, .inBlock 0] (fink [] false H0) σ H) Q := by
  intro h0 h1 h2 h3 h10 h11 h12 h13 hid hd ha hb hlim hlen hl hs hB hbig hm hp1 hp2 hfin
  have hpt := Sort.partition_holds ltB hS d a b p hp1 hp2 (by omega)
  simp -implicitDefEqProofs (disch := first | omega | with_unfolding_all exact eqR (Eq.refl _)) [nums, -getElem!_pos, -Int.natCast_add, -Int.natCast_mul, -Int.natCast_ediv, S119_0, h0, h1, h2, h3, h10, h11, h12, h13]
  refine .call (call_137 (len := len) (lo := lo) (ex := ex) hid hd hb (by omega) hp2 hl hs) fun e H1 ⟨he, hw⟩ => ?_
  subst he
  obtain ⟨g1, g2, g3, g4, g5, g6, g7⟩ := Sort.round_part hS (Sort.partition_holds ltB) hp1 hp2 (by omega) hB (mid := (Sort.partition ltB d a b p).1) (ap := (Sort.partition ltB d a b p).2.1) (d4 := (Sort.partition ltB d a b p).2.2) rfl
  clear hpt
  generalize (Sort.partition ltB d a b p).1 = mid at *
  generalize (Sort.partition ltB d a b p).2.1 = ap at *
  generalize (Sort.partition ltB d a b p).2.2 = d4 at *
  have hid1 : id < H1.next := by rw [hw.nxt]; exact hid
  by_cases c1 : mid - a < b - mid
  · simp -implicitDefEqProofs (disch := first | omega | with_unfolding_all exact eqR (Eq.refl _)) [nums, -getElem!_pos, -Int.natCast_add, -Int.natCast_mul, -Int.natCast_ediv, h0, h1, h2, h3, h10, h11, h12, h13]
    refine .call (callq_B ih (by omega) hid1 hw.at (by omega) (by omega) hlim hlen (by omega) (by omega) g4) fun e H2 ⟨he, L, k1, k2, hw2⟩ => ?_
    subst he
    obtain ⟨g8, g9⟩ := g6 L k1 k2
    have hsz : L.size = d.size := k1.1.trans g3
    simp -implicitDefEqProofs (disch := first | omega | with_unfolding_all exact eqR (Eq.refl _)) [nums, -getElem!_pos, -Int.natCast_add, -Int.natCast_mul, -Int.natCast_ediv, h0, h1, h2, h3, h10, h11, h12, h13]
    refine ih H0 Q (mid + 1) b limit (decide ((b - a) / 8 ≤ mid - a)) ap _ _ L (by omega) ?_ ?_ ?_ ?_ ?_ ?_ (by rw [hw2.nxt]; exact hid1) hw2.at (by omega) hb hlim hlen (by omega) (by omega) g8 fun H' R r1 r2 hw3 => ?_
    any_goals (first | (simp [h0, h1, h2, h3, h10, h11, h12, h13]; done) | skip)
    obtain ⟨g10, g11⟩ := g9 R r1 r2
    exact hfin H' R g10 g11 (hw.trans (hw2.trans hw3))
  · simp -implicitDefEqProofs (disch := first | omega | with_unfolding_all exact eqR (Eq.refl _)) [nums, -getElem!_pos, -Int.natCast_add, -Int.natCast_mul, -Int.natCast_ediv, h0, h1, h2, h3, h10, h11, h12, h13]
    refine .call (callq_B ih (by omega) hid1 hw.at (by omega) (by omega) hlim hlen (by omega) (by omega) g5) fun e H2 ⟨he, L, k1, k2, hw2⟩ => ?_
    subst he
    obtain ⟨g8, g9⟩ := g7 L k1 k2
    have hsz : L.size = d.size := k1.1.trans g3
    simp -implicitDefEqProofs (disch := first | omega | with_unfolding_all exact eqR (Eq.refl _)) [nums, -getElem!_pos, -Int.natCast_add, -Int.natCast_mul, -Int.natCast_ediv, h0, h1, h2, h3, h10, h11, h12, h13]
    refine ih H0 Q a mid limit (decide ((b - a) / 8 ≤ b - mid)) ap _ _ L (by omega) ?_ ?_ ?_ ?_ ?_ ?_ (by rw [hw2.nxt]; exact hid1) hw2.at (by omega) (by omega) hlim hlen (by omega) (by omega) g8 fun H' R r1 r2 hw3 => ?_
    any_goals (first | (simp [h0, h1, h2, h3, h10, h11, h12, h13]; done) | skip)
    obtain ⟨g10, g11⟩ := g9 R r1 r2
    exact hfin H' R g10 g11 (hw.trans (hw2.trans hw3))

theorem s119_1 (hS : Sort.SWO ltB) {m : Nat} (ih : PqB id len lo ex m) {H0 : Heap} {a b limit p : Nat} {wb wp : Bool} {σ : Sig} {H : Heap} {d : Array Int} : σ 0 = .sl id 0 len lo ex 1 → σ 1 = .int .i64 (a : Nat) → σ 2 = .int .i64 (b : Nat) → σ 3 = .int .i64 (limit : Nat) → σ 8 = .bool wb → σ 9 = .bool wp → σ 10 = .int .i64 ((b - a) : Nat) → σ 11 = .int .i64 (p : Nat) →
    id < H.next → H.obj id = (.cells (tB.arr d) none) → a ≤ b → b ≤ len → limit < 2 ^ 40 → len < 65536 → len ≤ d.size → d.size < 2 ^ 40 → Sort.Below ltB a b d → 12 < b - a → b - a ≤ m + 1 → a ≤ p → p < b → (∀ H' d', Sort.PermIn a b d d' → Sort.SortedIn ltB a b d' → Wr H H' id (.cells (tB.arr d') none) → Res (some (wrapA H0 (.tup []) H')) Q) →
    Res (gi (callI tab) S119_1 [.inBlock 1, .inLoop L119_6, .inBlock 0] (fink [] false H0) σ H) Q := by
  intro h0 h1 h2 h3 h10 h11 h12 h13 hid hd ha hb hlim hlen hl hs hB hbig hm hp1 hp2 hfin
  by_cases c1 : 0 < a
  · by_cases c2 : d[a - 1]! < d[p]!
    · simp -implicitDefEqProofs (disch := first | omega | with_unfolding_all exact eqR (Eq.refl _)) [nums, -getElem!_pos, -Int.natCast_add, -Int.natCast_mul, -Int.natCast_ediv, S119_1, h0, h1, h2, h3, h10, h11, h12, h13, hd, call_135, loadB, storeB, storeB2]
      refine s119_0 (len := len) (lo := lo) (ex := ex) hS ih (wb := wb) (wp := wp) (limit := limit) ?_ ?_ ?_ ?_ ?_ ?_ ?_ ?_ hid hd ha hb hlim hlen hl hs hB hbig hm hp1 hp2 hfin
      all_goals simp [h0, h1, h2, h3, h10, h11, h12, h13]
    · have hnl : ltB d[a - 1]! d[p]! = false := by simp [ltB, c2]
      obtain ⟨g1, g2, g3, g4, g5⟩ := Sort.round_eq hS (Sort.partitionEqual_holds ltB) (mid := (Sort.partitionEqual ltB d a b p).1) (d4 := (Sort.partitionEqual ltB d a b p).2) c1 hp1 hp2 (by omega) hB hnl rfl
      simp -implicitDefEqProofs (disch := first | omega | with_unfolding_all exact eqR (Eq.refl _)) [nums, -getElem!_pos, -Int.natCast_add, -Int.natCast_mul, -Int.natCast_ediv, S119_1, h0, h1, h2, h3, h10, h11, h12, h13, hd, call_135, loadB, storeB, storeB2]
      refine .call (call_136 (len := len) (lo := lo) (ex := ex) hid hd hb (by omega) hp2 hl hs) fun e H1 ⟨he, hw⟩ => ?_
      subst he
      generalize (Sort.partitionEqual ltB d a b p).1 = mid at *
      generalize (Sort.partitionEqual ltB d a b p).2 = d4 at *
      simp -implicitDefEqProofs (disch := first | omega | with_unfolding_all exact eqR (Eq.refl _)) [nums, -getElem!_pos, -Int.natCast_add, -Int.natCast_mul, -Int.natCast_ediv, h0, h1, h2, h3, h10, h11, h12, h13]
      refine ih H0 Q mid b limit wb wp _ _ d4 (by omega) ?_ ?_ ?_ ?_ ?_ ?_ (by rw [hw.nxt]; exact hid) hw.at g2 hb hlim hlen (by omega) (by omega) g4 fun H' R r1 r2 hw3 => ?_
      any_goals (first | (simp [h0, h1, h2, h3, h10, h11, h12, h13]; done) | skip)
      obtain ⟨g10, g11⟩ := g5 R r1 r2
      exact hfin H' R g10 g11 (hw.trans hw3)
  · simp -implicitDefEqProofs (disch := first | omega | with_unfolding_all exact eqR (Eq.refl _)) [nums, -getElem!_pos, -Int.natCast_add, -Int.natCast_mul, -Int.natCast_ediv, S119_1, h0, h1, h2, h3, h10, h11, h12, h13, hd, call_135, loadB, storeB, storeB2]
    refine s119_0 (len := len) (lo := lo) (ex := ex) hS ih (wb := wb) (wp := wp) (limit := limit) ?_ ?_ ?_ ?_ ?_ ?_ ?_ ?_ hid hd ha hb hlim hlen hl hs hB hbig hm hp1 hp2 hfin
    all_goals simp [h0, h1, h2, h3, h10, h11, h12, h13]


theorem s119_2 (hS : Sort.SWO ltB) {m : Nat} (ih : PqB id len lo ex m) {H0 : Heap} {a b limit p : Nat} {wb wp : Bool} {hint : Int} {σ : Sig} {H : Heap} {d : Array Int} : σ 0 = .sl id 0 len lo ex 1 → σ 1 = .int .i64 (a : Nat) → σ 2 = .int .i64 (b : Nat) → σ 3 = .int .i64 (limit : Nat) → σ 8 = .bool wb → σ 9 = .bool wp → σ 10 = .int .i64 ((b - a) : Nat) → σ 11 = .int .i64 (p : Nat) → σ 12 = .int .i64 hint →
    id < H.next → H.obj id = (.cells (tB.arr d) none) → a ≤ b → b ≤ len → limit < 2 ^ 40 → len < 65536 → len ≤ d.size → d.size < 2 ^ 40 → Sort.Below ltB a b d → 12 < b - a → b - a ≤ m + 1 → a ≤ p → p < b → (∀ H' d', Sort.PermIn a b d d' → Sort.SortedIn ltB a b d' → Wr H H' id (.cells (tB.arr d') none) → Res (some (wrapA H0 (.tup []) H')) Q) →
    Res (gi (callI tab) S119_2 [.inBlock 1, .inLoop L119_6, .inBlock 0] (fink [] false H0) σ H) Q := by
  intro h0 h1 h2 h3 h10 h11 h12 h13 h14 hid hd ha hb hlim hlen hl hs hB hbig hm hp1 hp2 hfin
  by_cases c1 : wb = true ∧ wp = true ∧ hint = 1
  · obtain ⟨rfl, rfl, rfl⟩ := c1
    simp -implicitDefEqProofs (disch := first | omega | with_unfolding_all exact eqR (Eq.refl _)) [nums, -getElem!_pos, -Int.natCast_add, -Int.natCast_mul, -Int.natCast_ediv, S119_2, h0, h1, h2, h3, h10, h11, h12, h13, h14]
    refine .call (call_134 (len := len) (lo := lo) (ex := ex) hid hd hb (by omega) hl hs) fun e H1 ⟨he, hw⟩ => ?_
    subst he
    obtain ⟨q1, q2⟩ := Sort.partialInsertionSort_holds hS d a b (by omega) (by omega) hB
    generalize (Sort.partialInsertionSort ltB d a b).1 = d1 at *
    generalize (Sort.partialInsertionSort ltB d a b).2 = bo at *
    cases bo with
    | true =>
      simp -implicitDefEqProofs (disch := first | omega | with_unfolding_all exact eqR (Eq.refl _)) [nums, -getElem!_pos, -Int.natCast_add, -Int.natCast_mul, -Int.natCast_ediv, h0, h1, h2, h3, h10, h11, h12, h13, h14]
      exact hfin H1 d1 q1 (q2 rfl) hw
    | false =>
      simp -implicitDefEqProofs (disch := first | omega | with_unfolding_all exact eqR (Eq.refl _)) [nums, -getElem!_pos, -Int.natCast_add, -Int.natCast_mul, -Int.natCast_ediv, h0, h1, h2, h3, h10, h11, h12, h13, h14]
      refine s119_1 (len := len) (lo := lo) (ex := ex) (d := d1) hS ih (wb := true) (wp := true) (limit := limit) ?_ ?_ ?_ ?_ ?_ ?_ ?_ ?_ (by rw [hw.nxt]; exact hid) hw.at ha hb hlim hlen (by rw [q1.1]; exact hl) (by rw [q1.1]; exact hs) (hB.perm (by omega) q1) hbig hm hp1 hp2 fun H' R r1 r2 hw3 => hfin H' R (Sort.permIn_trans _ _ _ _ _ q1 r1) r2 (hw.trans hw3)
      all_goals simp [h0, h1, h2, h3, h10, h11, h12, h13, h14]
  · cases wb with
    | false =>
      simp -implicitDefEqProofs (disch := first | omega | with_unfolding_all exact eqR (Eq.refl _)) [nums, -getElem!_pos, -Int.natCast_add, -Int.natCast_mul, -Int.natCast_ediv, S119_2, h0, h1, h2, h3, h10, h11, h12, h13, h14]
      refine s119_1 (len := len) (lo := lo) (ex := ex) hS ih (wb := false) (wp := wp) (limit := limit) ?_ ?_ ?_ ?_ ?_ ?_ ?_ ?_ hid hd ha hb hlim hlen hl hs hB hbig hm hp1 hp2 hfin
      all_goals simp [h0, h1, h2, h3, h10, h11, h12, h13, h14]
    | true =>
      cases wp with
      | false =>
        simp -implicitDefEqProofs (disch := first | omega | with_unfolding_all exact eqR (Eq.refl _)) [nums, -getElem!_pos, -Int.natCast_add, -Int.natCast_mul, -Int.natCast_ediv, S119_2, h0, h1, h2, h3, h10, h11, h12, h13, h14]
        refine s119_1 (len := len) (lo := lo) (ex := ex) hS ih (wb := true) (wp := false) (limit := limit) ?_ ?_ ?_ ?_ ?_ ?_ ?_ ?_ hid hd ha hb hlim hlen hl hs hB hbig hm hp1 hp2 hfin
        all_goals simp [h0, h1, h2, h3, h10, h11, h12, h13, h14]
      | true =>
        have c2 : hint ≠ 1 := fun h => c1 ⟨rfl, rfl, h⟩
        simp -implicitDefEqProofs (disch := first | omega | with_unfolding_all exact eqR (Eq.refl _)) [nums, -getElem!_pos, -Int.natCast_add, -Int.natCast_mul, -Int.natCast_ediv, S119_2, h0, h1, h2, h3, h10, h11, h12, h13, h14]
        refine s119_1 (len := len) (lo := lo) (ex := ex) hS ih (wb := true) (wp := true) (limit := limit) ?_ ?_ ?_ ?_ ?_ ?_ ?_ ?_ hid hd ha hb hlim hlen hl hs hB hbig hm hp1 hp2 hfin
        all_goals simp [h0, h1, h2, h3, h10, h11, h12, h13, h14]


theorem s119_3 (hS : Sort.SWO ltB) {m : Nat} (ih : PqB id len lo ex m) {H0 : Heap} {a b limit : Nat} {wb wp : Bool} {σ : Sig} {H : Heap} {d : Array Int} : σ 0 = .sl id 0 len lo ex 1 → σ 1 = .int .i64 (a : Nat) → σ 2 = .int .i64 (b : Nat) → σ 3 = .int .i64 (limit : Nat) → σ 8 = .bool wb → σ 9 = .bool wp → σ 10 = .int .i64 ((b - a) : Nat) →
    id < H.next → H.obj id = (.cells (tB.arr d) none) → a ≤ b → b ≤ len → limit < 2 ^ 40 → len < 65536 → len ≤ d.size → d.size < 2 ^ 40 → Sort.Below ltB a b d → 12 < b - a → b - a ≤ m + 1 → (∀ H' d', Sort.PermIn a b d d' → Sort.SortedIn ltB a b d' → Wr H H' id (.cells (tB.arr d') none) → Res (some (wrapA H0 (.tup []) H')) Q) →
    Res (gi (callI tab) S119_3 [.inBlock 1, .inLoop L119_6, .inBlock 0] (fink [] false H0) σ H) Q := by
  intro h0 h1 h2 h3 h10 h11 h12 hid hd ha hb hlim hlen hl hs hB hbig hm hfin
  simp -implicitDefEqProofs (disch := first | omega | with_unfolding_all exact eqR (Eq.refl _)) [nums, -getElem!_pos, -Int.natCast_add, -Int.natCast_mul, -Int.natCast_ediv, S119_3, h0, h1, h2, h3, h10, h11, h12]
  refine .call (call_132 (len := len) (lo := lo) (ex := ex) hid hd hb hbig hl hs) fun e H1 ⟨hH, p, hint, he, hp1, hp2⟩ => ?_
  subst he hH
  by_cases c1 : hint = 2
  · subst c1
    simp -implicitDefEqProofs (disch := first | omega | with_unfolding_all exact eqR (Eq.refl _)) [nums, -getElem!_pos, -Int.natCast_add, -Int.natCast_mul, -Int.natCast_ediv, h0, h1, h2, h3, h10, h11, h12]
    refine .call (call_133 (len := len) (lo := lo) (ex := ex) hid hd hb (by omega) hl hs) fun e H1 ⟨he, hw⟩ => ?_
    subst he
    have q1 := Sort.reverseRange_holds d a b ha (by omega)
    generalize Sort.reverseRange d a b = d1 at *
    simp -implicitDefEqProofs (disch := first | omega | with_unfolding_all exact eqR (Eq.refl _)) [nums, -getElem!_pos, -Int.natCast_add, -Int.natCast_mul, -Int.natCast_ediv, h0, h1, h2, h3, h10, h11, h12]
    refine s119_2 (len := len) (lo := lo) (ex := ex) (d := d1) hS ih (wb := wb) (wp := wp) (limit := limit) (p := b - 1 - (p - a)) (hint := 1) ?_ ?_ ?_ ?_ ?_ ?_ ?_ ?_ ?_ (by rw [hw.nxt]; exact hid) hw.at ha hb hlim hlen (by rw [q1.1]; exact hl) (by rw [q1.1]; exact hs) (hB.perm (by omega) q1) hbig hm (by omega) (by omega) fun H' R r1 r2 hw3 => hfin H' R (Sort.permIn_trans _ _ _ _ _ q1 r1) r2 (hw.trans hw3)
    all_goals simp [h0, h1, h2, h3, h10, h11, h12]
  · simp -implicitDefEqProofs (disch := first | omega | with_unfolding_all exact eqR (Eq.refl _)) [nums, -getElem!_pos, -Int.natCast_add, -Int.natCast_mul, -Int.natCast_ediv, h0, h1, h2, h3, h10, h11, h12]
    refine s119_2 (len := len) (lo := lo) (ex := ex) hS ih (wb := wb) (wp := wp) (limit := limit) (p := p) (hint := hint) ?_ ?_ ?_ ?_ ?_ ?_ ?_ ?_ ?_ hid hd ha hb hlim hlen hl hs hB hbig hm hp1 hp2 hfin
    all_goals simp [h0, h1, h2, h3, h10, h11, h12]


theorem s119_4 (hS : Sort.SWO ltB) {m : Nat} (ih : PqB id len lo ex m) {H0 : Heap} {a b limit : Nat} {wb wp : Bool} {σ : Sig} {H : Heap} {d : Array Int} : σ 0 = .sl id 0 len lo ex 1 → σ 1 = .int .i64 (a : Nat) → σ 2 = .int .i64 (b : Nat) → σ 3 = .int .i64 (limit : Nat) → σ 8 = .bool wb → σ 9 = .bool wp → σ 10 = .int .i64 ((b - a) : Nat) →
    id < H.next → H.obj id = (.cells (tB.arr d) none) → a ≤ b → b ≤ len → limit < 2 ^ 40 → len < 65536 → len ≤ d.size → d.size < 2 ^ 40 → Sort.Below ltB a b d → 12 < b - a → b - a ≤ m + 1 → limit ≠ 0 → (∀ H' d', Sort.PermIn a b d d' → Sort.SortedIn ltB a b d' → Wr H H' id (.cells (tB.arr d') none) → Res (some (wrapA H0 (.tup []) H')) Q) →
    Res (gi (callI tab) S119_4 [.inBlock 1, .inLoop L119_6, .inBlock 0] (fink [] false H0) σ H) Q := by
  intro h0 h1 h2 h3 h10 h11 h12 hid hd ha hb hlim hlen hl hs hB hbig hm hz hfin
  cases wb with
  | true =>
    simp -implicitDefEqProofs (disch := first | omega | with_unfolding_all exact eqR (Eq.refl _)) [nums, -getElem!_pos, -Int.natCast_add, -Int.natCast_mul, -Int.natCast_ediv, S119_4, h0, h1, h2, h3, h10, h11, h12]
    refine s119_3 (len := len) (lo := lo) (ex := ex) hS ih (wb := true) (wp := wp) (limit := limit) ?_ ?_ ?_ ?_ ?_ ?_ ?_ hid hd ha hb hlim hlen hl hs hB hbig hm hfin
    all_goals simp [h0, h1, h2, h3, h10, h11, h12]
  | false =>
    simp -implicitDefEqProofs (disch := first | omega | with_unfolding_all exact eqR (Eq.refl _)) [nums, -getElem!_pos, -Int.natCast_add, -Int.natCast_mul, -Int.natCast_ediv, S119_4, h0, h1, h2, h3, h10, h11, h12]
    refine .call (call_131 (len := len) (lo := lo) (ex := ex) hid hd hb (by omega) (by omega) hl hs) fun e H1 ⟨he, d1, q1, hw⟩ => ?_
    subst he
    simp -implicitDefEqProofs (disch := first | omega | with_unfolding_all exact eqR (Eq.refl _)) [nums, -getElem!_pos, -Int.natCast_add, -Int.natCast_mul, -Int.natCast_ediv, h0, h1, h2, h3, h10, h11, h12]
    refine s119_3 (len := len) (lo := lo) (ex := ex) (d := d1) hS ih (wb := false) (wp := wp) (limit := limit - 1) ?_ ?_ ?_ ?_ ?_ ?_ ?_ (by rw [hw.nxt]; exact hid) hw.at ha hb (by omega) hlen (by rw [q1.1]; exact hl) (by rw [q1.1]; exact hs) (hB.perm (by omega) q1) hbig hm fun H' R r1 r2 hw3 => hfin H' R (Sort.permIn_trans _ _ _ _ _ q1 r1) r2 (hw.trans hw3)
    all_goals simp [h0, h1, h2, h3, h10, h11, h12]


theorem pq_B (hS : Sort.SWO ltB) (m : Nat) : PqB id len lo ex m := by
  induction m with
  | zero =>
    intro H0 Q a b limit wb wp σ H d hm h0 h1 h2 h3 h10 h11 hid hd ha hb hlim hlen hl hs hB hfin
    obtain ⟨il, hil⟩ : ∃ x, x = Jtm.inLoop L119_6 := ⟨_, rfl⟩; rw [li_eq' il hil]
    simp -implicitDefEqProofs (disch := first | omega | with_unfolding_all exact eqR (Eq.refl _)) [nums, -getElem!_pos, -Int.natCast_add, -Int.natCast_mul, -Int.natCast_ediv, L119_6, h0, h1, h2, h3, h10, h11]
    refine .call (call_129 (len := len) (lo := lo) (ex := ex) hid hd hb ha hl hs) fun e H1 ⟨he, hw⟩ => ?_
    subst he
    obtain ⟨q1, q2⟩ := Sort.insertionSort_holds hS d a b ha (by omega)
    simp -implicitDefEqProofs (disch := first | omega | with_unfolding_all exact eqR (Eq.refl _)) [nums, -getElem!_pos, -Int.natCast_add, -Int.natCast_mul, -Int.natCast_ediv, h0, h1, h2, h3, h10, h11]
    subst hil
    try simp -implicitDefEqProofs (disch := first | omega | with_unfolding_all exact eqR (Eq.refl _)) [nums, -getElem!_pos, -Int.natCast_add, -Int.natCast_mul, -Int.natCast_ediv]
    exact hfin _ _ q1 q2 hw
  | succ m ih =>
    intro H0 Q a b limit wb wp σ H d hm h0 h1 h2 h3 h10 h11 hid hd ha hb hlim hlen hl hs hB hfin
    by_cases c1 : b - a ≤ 12
    · obtain ⟨il, hil⟩ : ∃ x, x = Jtm.inLoop L119_6 := ⟨_, rfl⟩; rw [li_eq' il hil]
      simp -implicitDefEqProofs (disch := first | omega | with_unfolding_all exact eqR (Eq.refl _)) [nums, -getElem!_pos, -Int.natCast_add, -Int.natCast_mul, -Int.natCast_ediv, L119_6, h0, h1, h2, h3, h10, h11]
      refine .call (call_129 (len := len) (lo := lo) (ex := ex) hid hd hb ha hl hs) fun e H1 ⟨he, hw⟩ => ?_
      subst he
      obtain ⟨q1, q2⟩ := Sort.insertionSort_holds hS d a b ha (by omega)
      simp -implicitDefEqProofs (disch := first | omega | with_unfolding_all exact eqR (Eq.refl _)) [nums, -getElem!_pos, -Int.natCast_add, -Int.natCast_mul, -Int.natCast_ediv, h0, h1, h2, h3, h10, h11]
      subst hil
      try simp -implicitDefEqProofs (disch := first | omega | with_unfolding_all exact eqR (Eq.refl _)) [nums, -getElem!_pos, -Int.natCast_add, -Int.natCast_mul, -Int.natCast_ediv]
      exact hfin _ _ q1 q2 hw
    · by_cases c2 : limit = 0
      · subst c2
        obtain ⟨il, hil⟩ : ∃ x, x = Jtm.inLoop L119_6 := ⟨_, rfl⟩; rw [li_eq' il hil]
        simp -implicitDefEqProofs (disch := first | omega | with_unfolding_all exact eqR (Eq.refl _)) [nums, -getElem!_pos, -Int.natCast_add, -Int.natCast_mul, -Int.natCast_ediv, L119_6, S119_5, h0, h1, h2, h3, h10, h11]
        refine .call (call_130 (len := len) (lo := lo) (ex := ex) hid hd hb (by omega) hl hs) fun e H1 ⟨he, hw⟩ => ?_
        subst he
        obtain ⟨q1, q2⟩ := Sort.heapSort_holds hS d a b ha (by omega)
        simp -implicitDefEqProofs (disch := first | omega | with_unfolding_all exact eqR (Eq.refl _)) [nums, -getElem!_pos, -Int.natCast_add, -Int.natCast_mul, -Int.natCast_ediv, h0, h1, h2, h3, h10, h11]
        subst hil
        try simp -implicitDefEqProofs (disch := first | omega | with_unfolding_all exact eqR (Eq.refl _)) [nums, -getElem!_pos, -Int.natCast_add, -Int.natCast_mul, -Int.natCast_ediv]
        exact hfin _ _ q1 q2 hw
      · obtain ⟨il, hil⟩ : ∃ x, x = Jtm.inLoop L119_6 := ⟨_, rfl⟩; rw [li_eq' il hil]
        simp -implicitDefEqProofs (disch := first | omega | with_unfolding_all exact eqR (Eq.refl _)) [nums, -getElem!_pos, -Int.natCast_add, -Int.natCast_mul, -Int.natCast_ediv, L119_6, S119_5, h0, h1, h2, h3, h10, h11]
        subst hil
        refine s119_4 (len := len) (lo := lo) (ex := ex) hS ih (wb := wb) (wp := wp) (limit := limit) ?_ ?_ ?_ ?_ ?_ ?_ ?_ hid hd ha hb hlim hlen hl hs hB (by omega) hm c2 hfin
        all_goals simp [h0, h1, h2, h3, h10, h11]


/-- The sort: what it leaves is a sorted permutation. -/
theorem call_102 (hS : Sort.SWO ltB) {H : Heap} {d : Array Int} (hid : id < H.next) (hd : H.obj id = (.cells (tB.arr d) none)) (hlen : len < 65536) (hl : len ≤ d.size) (hs : d.size < 2 ^ 40) :
    Res (callI tab 102 [.sl id 0 len lo ex 1] H) fun v H' => v = .tup [] ∧ ∃ d', Sort.PermIn 0 len d d' ∧ Sort.SortedIn ltB 0 len d' ∧ Wr H H' id (.cells (tB.arr d') none) := by
  refine .hide fun Q hQ => .enter tab_102 (by simp [AF102]) (.inl rfl) ?_
  have e0 : IntKind.u64.wrap (len : Int) = len := wrap64 (by omega)
  have b : Sort.bitsLen len ≤ 60 := (Sort.bitsLen_le_iff len 60).2 (by omega)
  simp -implicitDefEqProofs (disch := first | omega | with_unfolding_all exact eqR (Eq.refl _)) [nums, -getElem!_pos, -Int.natCast_add, -Int.natCast_mul, -Int.natCast_ediv, AF102, e0, call_101 hlen]
  refine .call (callq_B (a := 0) (b := len) (limit := Sort.bitsLen len) (len := len) (lo := lo) (ex := ex) (H := H.begin) (d := d) (pq_B hS len) (by omega) hid hd (by omega) (Nat.le_refl _) (by omega) hlen hl hs (.inl rfl)) fun e H1 ⟨he, d', q1, q2, hw⟩ => ?_
  subst he
  simp -implicitDefEqProofs (disch := first | omega | with_unfolding_all exact eqR (Eq.refl _)) [nums, -getElem!_pos, -Int.natCast_add, -Int.natCast_mul, -Int.natCast_ediv]
  obtain ⟨H2, e, w⟩ := hw.toFx.wrapA (H := H) (v := .tup []) rfl
  rw [e]
  exact .mk (hQ _ _ ⟨rfl, d', q1, q2, w⟩)

end
end Go.Mach.Ytl
