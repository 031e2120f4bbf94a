/-
  The choice of a pivot and breaking patterns: what is needed of them. By an AI agent.
-/
import Derived.Test.YtlbihaiejbpjoaaNf
set_option linter.unusedSimpArgs false
set_option linter.unusedVariables false
set_option maxRecDepth 100000
namespace Go.Mach.Ytl
open Go.Mach

theorem own_ws {H1 H2 : Heap} {j : Nat} {o : AObj} (w : Wr H1 H2 j o) (h1 : H1.ws = []) (hj : H1.base ≤ j) : H2.ws = [] := by
  apply List.eq_nil_iff_forall_not_mem.2
  intro i hi
  rcases w.wsI i hi with h | ⟨_, h⟩
  · rw [h1] at h; cases h
  · omega

theorem andK_le (r : Int) {m : Nat} (h : m < 4611686018427387904) : ∃ o : Nat, o ≤ m ∧ IntKind.i64.wrap (andK .u64 r m) = o := by
  refine ⟨(BitVec.ofInt 64 r &&& BitVec.ofInt 64 m).toNat, ?_, ?_⟩
  · rw [BitVec.toNat_and]
    refine Nat.le_trans Nat.and_le_right ?_
    simp only [BitVec.ofInt_natCast, BitVec.toNat_ofNat]
    exact Nat.mod_le _ _
  · have hb : (BitVec.ofInt 64 r &&& BitVec.ofInt 64 m).toNat ≤ m := by
      rw [BitVec.toNat_and]
      refine Nat.le_trans Nat.and_le_right ?_
      simp only [BitVec.ofInt_natCast, BitVec.toNat_ofNat]
      exact Nat.mod_le _ _
    unfold andK
    show IntKind.i64.wrap (IntKind.u64.wrap ((BitVec.ofInt 64 r &&& BitVec.ofInt 64 m).toNat : Int)) = _
    rw [wrap64 (by omega), wrap_nat (by omega)]
theorem shlU_one {n : Nat} (h : n ≤ 60) : shlK .u64 1 n = ((2 ^ n : Nat) : Int) := by
  unfold shlK
  have h2 : 2 ^ n ≤ 2 ^ 60 := Nat.pow_le_pow_right (by omega) h
  have : (1 : Int) * 2 ^ (min (n : Int).toNat IntKind.u64.bits) = ((2 ^ n : Nat) : Int) := by
    rw [Int.toNat_natCast, Nat.min_eq_left (by show n ≤ 64; omega)]; simp
  rw [this, wrap64 (by omega)]
theorem wrap64_sub1 {a : Nat} (h : 1 ≤ a) (h2 : a < 9223372036854775808) : IntKind.u64.wrap ((a : Int) - 1) = ((a - 1 : Nat) : Int) := by
  have : (a : Int) - 1 = ((a - 1 : Nat) : Int) := by omega
  rw [this, wrap64 (by omega)]
theorem call_125 {x : Nat} (h : x < 65536) {H : Heap} : callI tab 125 [.int .i64 x] H = some (.int .u64 ((2 ^ Sort.bitsLen x : Nat) : Int), H) := by
  refine callI_enter tab_125 (by simp [AF125]) (.inr (by simp)) ?_
  have b : Sort.bitsLen x ≤ 60 := (Sort.bitsLen_le_iff x 60).2 (by omega)
  have e : IntKind.u64.wrap (x : Int) = x := wrap64 (by omega)
  simp -implicitDefEqProofs (disch := first | omega | with_unfolding_all exact eqR (Eq.refl _)) [nums, -getElem!_pos, -Int.natCast_add, -Int.natCast_mul, -Int.natCast_ediv, AF125, e, call_101 h, shlU_one b, -Int.natCast_pow]

theorem load1' {v : AV} : part false 1 [v] 0 = some v := rfl
theorem call_126 {j : Nat} {x : Int} {H : Heap} (hj : j < H.next) (hd : H.obj j = .cells [.int .u64 x] none) :
    Res (callI tab 126 [.ptr j 0] H) fun v H' => ∃ r r' : Int, v = .int .u64 r ∧ Wr H H' j (.cells [.int .u64 r'] none) := by
  refine .hide fun Q hQ => .enter tab_126 (by simp [AF126]) (.inr (by simp)) ?_
  simp -implicitDefEqProofs (disch := first | omega | with_unfolding_all exact eqR (Eq.refl _)) [nums, -getElem!_pos, -Int.natCast_add, -Int.natCast_mul, -Int.natCast_ediv, AF126, hd, load1, store1]
  obtain ⟨H2, e, w⟩ := Fx.wrap (H := H) (o := .cells [.int .u64 _] none) (v := .int .u64 _) (Wr.trans (.set (H := H.begin) hj) (.trans (.set hj) (.set hj))).toFx rfl rfl rfl
  rw [e]
  exact .mk (hQ _ _ ⟨_, _, rfl, w⟩)

section
variable {g id len lo : Nat} {ex : Bool} {c : Mo → Mo → Int} {s : List Jtm} {k : KF} {Q : AV → Heap → Prop}


theorem call_112 (hc : CmpM g c) {a b : Nat} {H : Heap} {d : Array Mo} (hi : id < H.next) (hd : H.obj id = .cells (tM.arr d) none) (hb : b ≤ len) (ha : 12 < b - a) (hl : len ≤ d.size) (hs : d.size < 2 ^ 40) :
    Res (callI tab 112 [.sl id 0 len lo ex 8, .int .i64 a, .int .i64 b, .fn g [] []] H) fun v H' => H' = H ∧ ∃ (p : Nat) (h : Int), v = .tup [.int .i64 p, .int .i64 h] ∧ a ≤ p ∧ p < b := by
  refine .hide fun Q hQ => .enter tab_112 (by simp [AF112]) (.inl rfl) ?_
  have hd1 : (H.begin.new (.cells [.int .i64 0] none)).obj id = .cells (tM.arr d) none := by rw [new_obj, if_neg (by show id ≠ H.next; omega)]; exact hd
  have hij : id ≠ H.next := by omega
  have hj1 : H.next < (H.begin.new (.cells [.int .i64 0] none)).next := by show H.next < H.next + 1; omega
  have hi1 : id < (H.begin.new (.cells [.int .i64 0] none)).next := by show id < H.next + 1; omega
  have hsw1 : (H.begin.new (.cells [.int .i64 0] none)).obj H.next = .cells [.int .i64 0] none := by simp
  by_cases h50 : 50 ≤ b - a
  · simp -implicitDefEqProofs (disch := first | omega | with_unfolding_all exact eqR (Eq.refl _)) [nums, -getElem!_pos, -Int.natCast_add, -Int.natCast_mul, -Int.natCast_ediv, AF112, S112_0]
    refine .call (call_127 (len := len) (lo := lo) (ex := ex) (L := a) (U := b) hc hd1 hj1 hi1 hij hsw1 (by omega) hb hl hs) fun e1 H1 ⟨x1, s1, he, c1, w1⟩ => ?_
    subst he
    simp -implicitDefEqProofs (disch := first | omega | with_unfolding_all exact eqR (Eq.refl _)) [nums, -getElem!_pos, -Int.natCast_add, -Int.natCast_mul, -Int.natCast_ediv]
    refine .call (call_127 (len := len) (lo := lo) (ex := ex) (L := a) (U := b) hc ((w1.ne hi1 hij).trans hd1) (by rw [w1.nxt]; exact hj1) (by rw [w1.nxt]; exact hi1) hij w1.at (by omega) hb hl hs) fun e1 H2 ⟨x2, s2, he, c2, w2⟩ => ?_
    subst he
    have w12 := w1.trans w2
    simp -implicitDefEqProofs (disch := first | omega | with_unfolding_all exact eqR (Eq.refl _)) [nums, -getElem!_pos, -Int.natCast_add, -Int.natCast_mul, -Int.natCast_ediv]
    refine .call (call_127 (len := len) (lo := lo) (ex := ex) (L := a) (U := b) hc ((w12.ne hi1 hij).trans hd1) (by rw [w12.nxt]; exact hj1) (by rw [w12.nxt]; exact hi1) hij w12.at (by omega) hb hl hs) fun e1 H3 ⟨x3, s3, he, c3, w3⟩ => ?_
    subst he
    have w123 := w12.trans w3
    simp -implicitDefEqProofs (disch := first | omega | with_unfolding_all exact eqR (Eq.refl _)) [nums, -getElem!_pos, -Int.natCast_add, -Int.natCast_mul, -Int.natCast_ediv]
    refine .call (call_128 (len := len) (lo := lo) (ex := ex) (L := a) (U := b) hc ((w123.ne hi1 hij).trans hd1) (by rw [w123.nxt]; exact hj1) (by rw [w123.nxt]; exact hi1) hij w123.at ⟨c1, c2, c3⟩ hb hl hs) fun e1 H4 ⟨x4, sw, he, ⟨p1, p2⟩, w4⟩ => ?_
    subst he
    have w := w123.trans w4
    · skip
      have hws := own_ws w rfl (Nat.le_refl _)
      have hsw := w.at
      by_cases q0 : sw = 0
      · simp -implicitDefEqProofs (disch := first | omega | with_unfolding_all exact eqR (Eq.refl _)) [nums, -getElem!_pos, -Int.natCast_add, -Int.natCast_mul, -Int.natCast_ediv, S112_1, hsw, load1, q0]
        try rw [wrap_quiet hws rfl]
        exact .mk (hQ _ _ ⟨rfl, _, _, rfl, p1, p2⟩)
      · by_cases q1 : sw = 12
        · simp -implicitDefEqProofs (disch := first | omega | with_unfolding_all exact eqR (Eq.refl _)) [nums, -getElem!_pos, -Int.natCast_add, -Int.natCast_mul, -Int.natCast_ediv, S112_1, hsw, load1, q0, q1]
          try rw [wrap_quiet hws rfl]
          exact .mk (hQ _ _ ⟨rfl, _, _, rfl, p1, p2⟩)
        · simp -implicitDefEqProofs (disch := first | omega | with_unfolding_all exact eqR (Eq.refl _)) [nums, -getElem!_pos, -Int.natCast_add, -Int.natCast_mul, -Int.natCast_ediv, S112_1, hsw, load1, q0, q1]
          try rw [wrap_quiet hws rfl]
          exact .mk (hQ _ _ ⟨rfl, _, _, rfl, p1, p2⟩)
  · simp -implicitDefEqProofs (disch := first | omega | with_unfolding_all exact eqR (Eq.refl _)) [nums, -getElem!_pos, -Int.natCast_add, -Int.natCast_mul, -Int.natCast_ediv, AF112, S112_0]
    refine .call (call_128 (len := len) (lo := lo) (ex := ex) (L := a) (U := b) hc hd1 hj1 hi1 hij hsw1 (by omega) hb hl hs) fun e1 H4 ⟨x4, sw, he, ⟨p1, p2⟩, w⟩ => ?_
    subst he
    · skip
      have hws := own_ws w rfl (Nat.le_refl _)
      have hsw := w.at
      by_cases q0 : sw = 0
      · simp -implicitDefEqProofs (disch := first | omega | with_unfolding_all exact eqR (Eq.refl _)) [nums, -getElem!_pos, -Int.natCast_add, -Int.natCast_mul, -Int.natCast_ediv, S112_1, hsw, load1, q0]
        try rw [wrap_quiet hws rfl]
        exact .mk (hQ _ _ ⟨rfl, _, _, rfl, p1, p2⟩)
      · by_cases q1 : sw = 12
        · simp -implicitDefEqProofs (disch := first | omega | with_unfolding_all exact eqR (Eq.refl _)) [nums, -getElem!_pos, -Int.natCast_add, -Int.natCast_mul, -Int.natCast_ediv, S112_1, hsw, load1, q0, q1]
          try rw [wrap_quiet hws rfl]
          exact .mk (hQ _ _ ⟨rfl, _, _, rfl, p1, p2⟩)
        · simp -implicitDefEqProofs (disch := first | omega | with_unfolding_all exact eqR (Eq.refl _)) [nums, -getElem!_pos, -Int.natCast_add, -Int.natCast_mul, -Int.natCast_ediv, S112_1, hsw, load1, q0, q1]
          try rw [wrap_quiet hws rfl]
          exact .mk (hQ _ _ ⟨rfl, _, _, rfl, p1, p2⟩)


theorem l111_3 {a b m j : Nat} {H0 : Heap} (hab : 8 ≤ b - a) (hb : b ≤ len) (hm1 : 1 ≤ m) (hm : m ≤ 2 * (b - a)) (hj0 : H0.next ≤ j) (hjb : H0.base ≤ j) (hj1 : id < H0.next) : ∀ (q idx : Nat) (σ : Sig) (H : Heap) (d : Array Mo) (x : Int), a + (b - a) / 4 * 2 + 2 - idx = q → a + (b - a) / 4 * 2 - 1 ≤ idx → σ 0 = .sl id 0 len lo ex 8 → σ 1 = .int .i64 (a : Nat) → σ 8 = .int .i64 ((b - a) : Nat) → σ 9 = .ptr j 0 → σ 10 = .int .u64 (m : Nat) → σ 11 = .int .i64 (idx : Nat) →
    Fx H0 H id (.cells (tM.arr d) none) → j < H.next → H.obj j = .cells [.int .u64 x] none → len ≤ d.size → d.size < 2 ^ 40 →
    (∀ σ' H' d', Sort.PermIn a b d d' → Fx H0 H' id (.cells (tM.arr d') none) → Res (ai (callI tab) s k .nrm σ' H') Q) →
    Res (li (callI tab) L111_3 (.inBlock 0 :: s) k σ H) Q := by
  intro q
  induction q with
  | zero =>
    intro idx σ H d x hq hx h0 h1 h8 h9 h10 h11 hf hj hr hl hs hQ
    obtain ⟨il, hil⟩ : ∃ x, x = Jtm.inLoop L111_3 := ⟨_, rfl⟩; rw [li_eq' il hil]
    simp -implicitDefEqProofs (disch := first | omega | with_unfolding_all exact eqR (Eq.refl _)) [nums, -getElem!_pos, -Int.natCast_add, -Int.natCast_mul, -Int.natCast_ediv, L111_3, S111_2, h0, h1, h8, h9, h10, h11]
    subst hil
    try simp -implicitDefEqProofs (disch := first | omega | with_unfolding_all exact eqR (Eq.refl _)) [nums, -getElem!_pos, -Int.natCast_add, -Int.natCast_mul, -Int.natCast_ediv]
    exact hQ _ _ d (Sort.permIn_refl _ _ _) hf
  | succ q ih =>
    intro idx σ H d x hq hx h0 h1 h8 h9 h10 h11 hf hj hr hl hs hQ
    have hd := hf.at
    obtain ⟨il, hil⟩ : ∃ x, x = Jtm.inLoop L111_3 := ⟨_, rfl⟩; rw [li_eq' il hil]
    simp -implicitDefEqProofs (disch := first | omega | with_unfolding_all exact eqR (Eq.refl _)) [nums, -getElem!_pos, -Int.natCast_add, -Int.natCast_mul, -Int.natCast_ediv, L111_3, S111_2, h0, h1, h8, h9, h10, h11]
    refine .call (call_126 hj hr) fun e1 H2 ⟨r, r', he, w⟩ => ?_
    subst he
    have hf2 := hf.own w.toFx hj0 hjb
    have hd2 := hf2.at
    obtain ⟨o, ho, eo⟩ := andK_le r (m := m - 1) (by omega)
    have hid2 : id < H2.next := Nat.lt_of_lt_of_le hj1 hf2.next
    have hne : j ≠ id := by omega
    by_cases hlo : b - a ≤ o
    · simp -implicitDefEqProofs (disch := first | omega | with_unfolding_all exact eqR (Eq.refl _)) [nums, -getElem!_pos, -Int.natCast_add, -Int.natCast_mul, -Int.natCast_ediv, S111_0, S111_1, h0, h1, h8, h9, h10, h11, eo, wrap64_sub1, hd2, loadM, storeM, storeM2]
      subst hil
      try simp -implicitDefEqProofs (disch := first | omega | with_unfolding_all exact eqR (Eq.refl _)) [nums, -getElem!_pos, -Int.natCast_add, -Int.natCast_mul, -Int.natCast_ediv]
      have hp := Sort.swp_permIn d a b idx (a + (o - (b - a))) (by omega) (by omega) (by omega) (by omega) (by omega)
      refine ih (idx + 1) _ _ (Sort.swp d idx (a + (o - (b - a)))) r' (by omega) (by omega) ?_ ?_ ?_ ?_ ?_ ?_ (hf2.trans (Wr.trans (.set hid2) (.set hid2)).toFx) (by show j < H2.next; rw [w.nxt]; exact hj) ?_ (by rw [swp_size]; exact hl) (by rw [swp_size]; exact hs) fun σ' H' d' hp' hf' => hQ σ' H' d' (Sort.permIn_trans _ _ _ _ _ hp hp') hf'
      all_goals (first | (simp [h0, h1, h8, h9, h10, h11, w.at, hne, Sort.swp]; done) | skip)
    · simp -implicitDefEqProofs (disch := first | omega | with_unfolding_all exact eqR (Eq.refl _)) [nums, -getElem!_pos, -Int.natCast_add, -Int.natCast_mul, -Int.natCast_ediv, S111_0, S111_1, h0, h1, h8, h9, h10, h11, eo, wrap64_sub1, hd2, loadM, storeM, storeM2]
      subst hil
      try simp -implicitDefEqProofs (disch := first | omega | with_unfolding_all exact eqR (Eq.refl _)) [nums, -getElem!_pos, -Int.natCast_add, -Int.natCast_mul, -Int.natCast_ediv]
      have hp := Sort.swp_permIn d a b idx (a + o) (by omega) (by omega) (by omega) (by omega) (by omega)
      refine ih (idx + 1) _ _ (Sort.swp d idx (a + o)) r' (by omega) (by omega) ?_ ?_ ?_ ?_ ?_ ?_ (hf2.trans (Wr.trans (.set hid2) (.set hid2)).toFx) (by show j < H2.next; rw [w.nxt]; exact hj) ?_ (by rw [swp_size]; exact hl) (by rw [swp_size]; exact hs) fun σ' H' d' hp' hf' => hQ σ' H' d' (Sort.permIn_trans _ _ _ _ _ hp hp') hf'
      all_goals (first | (simp [h0, h1, h8, h9, h10, h11, w.at, hne, Sort.swp]; done) | skip)

theorem call_111 {a b : Nat} {cv : AV} {H : Heap} {d : Array Mo} (hi : id < H.next) (hd : H.obj id = (.cells (tM.arr d) none)) (hb : b ≤ len) (ha : 8 ≤ b - a) (hlen : b - a < 65536) (hl : len ≤ d.size) (hs : d.size < 2 ^ 40) :
    Res (callI tab 111 [.sl id 0 len lo ex 8, .int .i64 a, .int .i64 b, cv] H) fun v H' => v = .tup [] ∧ ∃ d', Sort.PermIn a b d d' ∧ Wr H H' id (.cells (tM.arr d') none) := by
  refine .hide fun Q hQ => .enter tab_111 (by simp [AF111]) (.inl rfl) ?_
  have e0 : IntKind.u64.wrap ((b - a : Nat) : Int) = (b - a : Nat) := wrap64 (by omega)
  have m1 := Sort.lt_two_pow_bitsLen (b - a)
  have m2 := Sort.two_pow_bitsLen_le (n := b - a) (by omega)
  simp -implicitDefEqProofs (disch := first | omega | with_unfolding_all exact eqR (Eq.refl _)) [nums, -getElem!_pos, -Int.natCast_add, -Int.natCast_mul, -Int.natCast_ediv, AF111, S111_4, e0, store1, call_125 hlen, -Int.natCast_pow]
  refine l111_3 (H0 := H.begin) (a := a) (b := b) (len := len) (lo := lo) (ex := ex) (j := H.next) (m := 2 ^ Sort.bitsLen (b - a)) ha hb (by omega) m2 (Nat.le_refl _) (Nat.le_refl _) hi _ (a + (b - a) / 4 * 2 - 1) _ _ d ((b - a : Nat) : Int) rfl (Nat.le_refl _) ?_ ?_ ?_ ?_ ?_ ?_ ?_ ?_ ?_ hl hs fun σ' H' d' hp hf => ?_
  any_goals (first | (simp; done) | skip)
  · refine Fx.own (Fx.new (Fx.refl hi hd)) (Wr.set ?_).toFx (Nat.le_refl _) (Nat.le_refl _)
    show H.next < H.next + 1; omega
  · simp -implicitDefEqProofs (disch := first | omega | with_unfolding_all exact eqR (Eq.refl _)) [nums, -getElem!_pos, -Int.natCast_add, -Int.natCast_mul, -Int.natCast_ediv]
    obtain ⟨H2, e, w⟩ := hf.wrapA (H := H) (v := .tup []) rfl
    rw [e]
    exact .mk (hQ _ _ ⟨rfl, d', hp, w⟩)


theorem call_132 {a b : Nat} {H : Heap} {d : Array Int} (hi : id < H.next) (hd : H.obj id = .cells (tB.arr d) none) (hb : b ≤ len) (ha : 12 < b - a) (hl : len ≤ d.size) (hs : d.size < 2 ^ 40) :
    Res (callI tab 132 [.sl id 0 len lo ex 1, .int .i64 a, .int .i64 b] H) fun v H' => H' = H ∧ ∃ (p : Nat) (h : Int), v = .tup [.int .i64 p, .int .i64 h] ∧ a ≤ p ∧ p < b := by
  refine .hide fun Q hQ => .enter tab_132 (by simp [AF132]) (.inl rfl) ?_
  have hd1 : (H.begin.new (.cells [.int .i64 0] none)).obj id = .cells (tB.arr d) none := by rw [new_obj, if_neg (by show id ≠ H.next; omega)]; exact hd
  have hij : id ≠ H.next := by omega
  have hj1 : H.next < (H.begin.new (.cells [.int .i64 0] none)).next := by show H.next < H.next + 1; omega
  have hi1 : id < (H.begin.new (.cells [.int .i64 0] none)).next := by show id < H.next + 1; omega
  have hsw1 : (H.begin.new (.cells [.int .i64 0] none)).obj H.next = .cells [.int .i64 0] none := by simp
  by_cases h50 : 50 ≤ b - a
  · simp -implicitDefEqProofs (disch := first | omega | with_unfolding_all exact eqR (Eq.refl _)) [nums, -getElem!_pos, -Int.natCast_add, -Int.natCast_mul, -Int.natCast_ediv, AF132, S132_0]
    refine .call (call_140 (len := len) (lo := lo) (ex := ex) (L := a) (U := b) hd1 hj1 hi1 hij hsw1 (by omega) hb hl hs) fun e1 H1 ⟨x1, s1, he, c1, w1⟩ => ?_
    subst he
    simp -implicitDefEqProofs (disch := first | omega | with_unfolding_all exact eqR (Eq.refl _)) [nums, -getElem!_pos, -Int.natCast_add, -Int.natCast_mul, -Int.natCast_ediv]
    refine .call (call_140 (len := len) (lo := lo) (ex := ex) (L := a) (U := b) ((w1.ne hi1 hij).trans hd1) (by rw [w1.nxt]; exact hj1) (by rw [w1.nxt]; exact hi1) hij w1.at (by omega) hb hl hs) fun e1 H2 ⟨x2, s2, he, c2, w2⟩ => ?_
    subst he
    have w12 := w1.trans w2
    simp -implicitDefEqProofs (disch := first | omega | with_unfolding_all exact eqR (Eq.refl _)) [nums, -getElem!_pos, -Int.natCast_add, -Int.natCast_mul, -Int.natCast_ediv]
    refine .call (call_140 (len := len) (lo := lo) (ex := ex) (L := a) (U := b) ((w12.ne hi1 hij).trans hd1) (by rw [w12.nxt]; exact hj1) (by rw [w12.nxt]; exact hi1) hij w12.at (by omega) hb hl hs) fun e1 H3 ⟨x3, s3, he, c3, w3⟩ => ?_
    subst he
    have w123 := w12.trans w3
    simp -implicitDefEqProofs (disch := first | omega | with_unfolding_all exact eqR (Eq.refl _)) [nums, -getElem!_pos, -Int.natCast_add, -Int.natCast_mul, -Int.natCast_ediv]
    refine .call (call_141 (len := len) (lo := lo) (ex := ex) (L := a) (U := b) ((w123.ne hi1 hij).trans hd1) (by rw [w123.nxt]; exact hj1) (by rw [w123.nxt]; exact hi1) hij w123.at ⟨c1, c2, c3⟩ hb hl hs) fun e1 H4 ⟨x4, sw, he, ⟨p1, p2⟩, w4⟩ => ?_
    subst he
    have w := w123.trans w4
    · skip
      have hws := own_ws w rfl (Nat.le_refl _)
      have hsw := w.at
      by_cases q0 : sw = 0
      · simp -implicitDefEqProofs (disch := first | omega | with_unfolding_all exact eqR (Eq.refl _)) [nums, -getElem!_pos, -Int.natCast_add, -Int.natCast_mul, -Int.natCast_ediv, S132_1, hsw, load1, q0]
        try rw [wrap_quiet hws rfl]
        exact .mk (hQ _ _ ⟨rfl, _, _, rfl, p1, p2⟩)
      · by_cases q1 : sw = 12
        · simp -implicitDefEqProofs (disch := first | omega | with_unfolding_all exact eqR (Eq.refl _)) [nums, -getElem!_pos, -Int.natCast_add, -Int.natCast_mul, -Int.natCast_ediv, S132_1, hsw, load1, q0, q1]
          try rw [wrap_quiet hws rfl]
          exact .mk (hQ _ _ ⟨rfl, _, _, rfl, p1, p2⟩)
        · simp -implicitDefEqProofs (disch := first | omega | with_unfolding_all exact eqR (Eq.refl _)) [nums, -getElem!_pos, -Int.natCast_add, -Int.natCast_mul, -Int.natCast_ediv, S132_1, hsw, load1, q0, q1]
          try rw [wrap_quiet hws rfl]
          exact .mk (hQ _ _ ⟨rfl, _, _, rfl, p1, p2⟩)
  · simp -implicitDefEqProofs (disch := first | omega | with_unfolding_all exact eqR (Eq.refl _)) [nums, -getElem!_pos, -Int.natCast_add, -Int.natCast_mul, -Int.natCast_ediv, AF132, S132_0]
    refine .call (call_141 (len := len) (lo := lo) (ex := ex) (L := a) (U := b) hd1 hj1 hi1 hij hsw1 (by omega) hb hl hs) fun e1 H4 ⟨x4, sw, he, ⟨p1, p2⟩, w⟩ => ?_
    subst he
    · skip
      have hws := own_ws w rfl (Nat.le_refl _)
      have hsw := w.at
      by_cases q0 : sw = 0
      · simp -implicitDefEqProofs (disch := first | omega | with_unfolding_all exact eqR (Eq.refl _)) [nums, -getElem!_pos, -Int.natCast_add, -Int.natCast_mul, -Int.natCast_ediv, S132_1, hsw, load1, q0]
        try rw [wrap_quiet hws rfl]
        exact .mk (hQ _ _ ⟨rfl, _, _, rfl, p1, p2⟩)
      · by_cases q1 : sw = 12
        · simp -implicitDefEqProofs (disch := first | omega | with_unfolding_all exact eqR (Eq.refl _)) [nums, -getElem!_pos, -Int.natCast_add, -Int.natCast_mul, -Int.natCast_ediv, S132_1, hsw, load1, q0, q1]
          try rw [wrap_quiet hws rfl]
          exact .mk (hQ _ _ ⟨rfl, _, _, rfl, p1, p2⟩)
        · simp -implicitDefEqProofs (disch := first | omega | with_unfolding_all exact eqR (Eq.refl _)) [nums, -getElem!_pos, -Int.natCast_add, -Int.natCast_mul, -Int.natCast_ediv, S132_1, hsw, load1, q0, q1]
          try rw [wrap_quiet hws rfl]
          exact .mk (hQ _ _ ⟨rfl, _, _, rfl, p1, p2⟩)


theorem l131_3 {a b m j : Nat} {H0 : Heap} (hab : 8 ≤ b - a) (hb : b ≤ len) (hm1 : 1 ≤ m) (hm : m ≤ 2 * (b - a)) (hj0 : H0.next ≤ j) (hjb : H0.base ≤ j) (hj1 : id < H0.next) : ∀ (q idx : Nat) (σ : Sig) (H : Heap) (d : Array Int) (x : Int), a + (b - a) / 4 * 2 + 2 - idx = q → a + (b - a) / 4 * 2 - 1 ≤ idx → σ 0 = .sl id 0 len lo ex 1 → σ 1 = .int .i64 (a : Nat) → σ 6 = .int .i64 ((b - a) : Nat) → σ 7 = .ptr j 0 → σ 8 = .int .u64 (m : Nat) → σ 9 = .int .i64 (idx : Nat) →
    Fx H0 H id (.cells (tB.arr d) none) → j < H.next → H.obj j = .cells [.int .u64 x] none → len ≤ d.size → d.size < 2 ^ 40 →
    (∀ σ' H' d', Sort.PermIn a b d d' → Fx H0 H' id (.cells (tB.arr d') none) → Res (ai (callI tab) s k .nrm σ' H') Q) →
    Res (li (callI tab) L131_3 (.inBlock 0 :: s) k σ H) Q := by
  intro q
  induction q with
  | zero =>
    intro idx σ H d x hq hx h0 h1 h8 h9 h10 h11 hf hj hr hl hs hQ
    obtain ⟨il, hil⟩ : ∃ x, x = Jtm.inLoop L131_3 := ⟨_, rfl⟩; rw [li_eq' il hil]
    simp -implicitDefEqProofs (disch := first | omega | with_unfolding_all exact eqR (Eq.refl _)) [nums, -getElem!_pos, -Int.natCast_add, -Int.natCast_mul, -Int.natCast_ediv, L131_3, S131_2, h0, h1, h8, h9, h10, h11]
    subst hil
    try simp -implicitDefEqProofs (disch := first | omega | with_unfolding_all exact eqR (Eq.refl _)) [nums, -getElem!_pos, -Int.natCast_add, -Int.natCast_mul, -Int.natCast_ediv]
    exact hQ _ _ d (Sort.permIn_refl _ _ _) hf
  | succ q ih =>
    intro idx σ H d x hq hx h0 h1 h8 h9 h10 h11 hf hj hr hl hs hQ
    have hd := hf.at
    obtain ⟨il, hil⟩ : ∃ x, x = Jtm.inLoop L131_3 := ⟨_, rfl⟩; rw [li_eq' il hil]
    simp -implicitDefEqProofs (disch := first | omega | with_unfolding_all exact eqR (Eq.refl _)) [nums, -getElem!_pos, -Int.natCast_add, -Int.natCast_mul, -Int.natCast_ediv, L131_3, S131_2, h0, h1, h8, h9, h10, h11]
    refine .call (call_126 hj hr) fun e1 H2 ⟨r, r', he, w⟩ => ?_
    subst he
    have hf2 := hf.own w.toFx hj0 hjb
    have hd2 := hf2.at
    obtain ⟨o, ho, eo⟩ := andK_le r (m := m - 1) (by omega)
    have hid2 : id < H2.next := Nat.lt_of_lt_of_le hj1 hf2.next
    have hne : j ≠ id := by omega
    by_cases hlo : b - a ≤ o
    · simp -implicitDefEqProofs (disch := first | omega | with_unfolding_all exact eqR (Eq.refl _)) [nums, -getElem!_pos, -Int.natCast_add, -Int.natCast_mul, -Int.natCast_ediv, S131_0, S131_1, h0, h1, h8, h9, h10, h11, eo, wrap64_sub1, hd2, loadB, storeB, storeB2]
      subst hil
      try simp -implicitDefEqProofs (disch := first | omega | with_unfolding_all exact eqR (Eq.refl _)) [nums, -getElem!_pos, -Int.natCast_add, -Int.natCast_mul, -Int.natCast_ediv]
      have hp := Sort.swp_permIn d a b idx (a + (o - (b - a))) (by omega) (by omega) (by omega) (by omega) (by omega)
      refine ih (idx + 1) _ _ (Sort.swp d idx (a + (o - (b - a)))) r' (by omega) (by omega) ?_ ?_ ?_ ?_ ?_ ?_ (hf2.trans (Wr.trans (.set hid2) (.set hid2)).toFx) (by show j < H2.next; rw [w.nxt]; exact hj) ?_ (by rw [swp_size]; exact hl) (by rw [swp_size]; exact hs) fun σ' H' d' hp' hf' => hQ σ' H' d' (Sort.permIn_trans _ _ _ _ _ hp hp') hf'
      all_goals (first | (simp [h0, h1, h8, h9, h10, h11, w.at, hne, Sort.swp]; done) | skip)
    · simp -implicitDefEqProofs (disch := first | omega | with_unfolding_all exact eqR (Eq.refl _)) [nums, -getElem!_pos, -Int.natCast_add, -Int.natCast_mul, -Int.natCast_ediv, S131_0, S131_1, h0, h1, h8, h9, h10, h11, eo, wrap64_sub1, hd2, loadB, storeB, storeB2]
      subst hil
      try simp -implicitDefEqProofs (disch := first | omega | with_unfolding_all exact eqR (Eq.refl _)) [nums, -getElem!_pos, -Int.natCast_add, -Int.natCast_mul, -Int.natCast_ediv]
      have hp := Sort.swp_permIn d a b idx (a + o) (by omega) (by omega) (by omega) (by omega) (by omega)
      refine ih (idx + 1) _ _ (Sort.swp d idx (a + o)) r' (by omega) (by omega) ?_ ?_ ?_ ?_ ?_ ?_ (hf2.trans (Wr.trans (.set hid2) (.set hid2)).toFx) (by show j < H2.next; rw [w.nxt]; exact hj) ?_ (by rw [swp_size]; exact hl) (by rw [swp_size]; exact hs) fun σ' H' d' hp' hf' => hQ σ' H' d' (Sort.permIn_trans _ _ _ _ _ hp hp') hf'
      all_goals (first | (simp [h0, h1, h8, h9, h10, h11, w.at, hne, Sort.swp]; done) | skip)

theorem call_131 {a b : Nat} {H : Heap} {d : Array Int} (hi : id < H.next) (hd : H.obj id = (.cells (tB.arr d) none)) (hb : b ≤ len) (ha : 8 ≤ b - a) (hlen : b - a < 65536) (hl : len ≤ d.size) (hs : d.size < 2 ^ 40) :
    Res (callI tab 131 [.sl id 0 len lo ex 1, .int .i64 a, .int .i64 b] H) fun v H' => v = .tup [] ∧ ∃ d', Sort.PermIn a b d d' ∧ Wr H H' id (.cells (tB.arr d') none) := by
  refine .hide fun Q hQ => .enter tab_131 (by simp [AF131]) (.inl rfl) ?_
  have e0 : IntKind.u64.wrap ((b - a : Nat) : Int) = (b - a : Nat) := wrap64 (by omega)
  have m1 := Sort.lt_two_pow_bitsLen (b - a)
  have m2 := Sort.two_pow_bitsLen_le (n := b - a) (by omega)
  simp -implicitDefEqProofs (disch := first | omega | with_unfolding_all exact eqR (Eq.refl _)) [nums, -getElem!_pos, -Int.natCast_add, -Int.natCast_mul, -Int.natCast_ediv, AF131, S131_4, e0, store1, call_125 hlen, -Int.natCast_pow]
  refine l131_3 (H0 := H.begin) (a := a) (b := b) (len := len) (lo := lo) (ex := ex) (j := H.next) (m := 2 ^ Sort.bitsLen (b - a)) ha hb (by omega) m2 (Nat.le_refl _) (Nat.le_refl _) hi _ (a + (b - a) / 4 * 2 - 1) _ _ d ((b - a : Nat) : Int) rfl (Nat.le_refl _) ?_ ?_ ?_ ?_ ?_ ?_ ?_ ?_ ?_ hl hs fun σ' H' d' hp hf => ?_
  any_goals (first | (simp; done) | skip)
  · refine Fx.own (Fx.new (Fx.refl hi hd)) (Wr.set ?_).toFx (Nat.le_refl _) (Nat.le_refl _)
    show H.next < H.next + 1; omega
  · simp -implicitDefEqProofs (disch := first | omega | with_unfolding_all exact eqR (Eq.refl _)) [nums, -getElem!_pos, -Int.natCast_add, -Int.natCast_mul, -Int.natCast_ediv]
    obtain ⟨H2, e, w⟩ := hf.wrapA (H := H) (v := .tup []) rfl
    rw [e]
    exact .mk (hQ _ _ ⟨rfl, d', hp, w⟩)

end
end Go.Mach.Ytl
