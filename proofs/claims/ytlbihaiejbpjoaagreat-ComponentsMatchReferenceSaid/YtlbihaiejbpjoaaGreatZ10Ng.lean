/-
  Pruned copy of the text Ng. By an AI agent.
-/
import Derived.Test.YtlbihaiejbpjoaaGreatZ10Nd
set_option linter.unusedSimpArgs false
set_option linter.unusedVariables false
set_option maxRecDepth 100000
namespace Go.Mach.Ytl
open Go.Mach
theorem own_ws {H1 H2 : Heap} {j : Nat} {o : AObj} (w : Wr H1 H2 j o) (h1 : H1.ws = []) (hj : H1.base ≤ j) : H2.ws = [] := by
  apply List.eq_nil_iff_forall_not_mem.2
  intro i hi
  rcases w.wsI i hi with h | ⟨_, h⟩
  · rw [h1] at h; cases h
  · omega
theorem andK_le (r : Int) {m : Nat} (h : m < 4611686018427387904) : ∃ o : Nat, o ≤ m ∧ IntKind.i64.wrap (andK .u64 r m) = o := by
  refine ⟨(BitVec.ofInt 64 r &&& BitVec.ofInt 64 m).toNat, ?_, ?_⟩
  · rw [BitVec.toNat_and]
    refine Nat.le_trans Nat.and_le_right ?_
    simp only [BitVec.ofInt_natCast, BitVec.toNat_ofNat]
    exact Nat.mod_le _ _
  · have hb : (BitVec.ofInt 64 r &&& BitVec.ofInt 64 m).toNat ≤ m := by
      rw [BitVec.toNat_and]
      refine Nat.le_trans Nat.and_le_right ?_
      simp only [BitVec.ofInt_natCast, BitVec.toNat_ofNat]
      exact Nat.mod_le _ _
    unfold andK
    show IntKind.i64.wrap (IntKind.u64.wrap ((BitVec.ofInt 64 r &&& BitVec.ofInt 64 m).toNat : Int)) = _
    rw [wrap64 (by omega), wrap_nat (by omega)]
theorem shlU_one {n : Nat} (h : n ≤ 60) : shlK .u64 1 n = ((2 ^ n : Nat) : Int) := by
  unfold shlK
  have h2 : 2 ^ n ≤ 2 ^ 60 := Nat.pow_le_pow_right (by omega) h
  have : (1 : Int) * 2 ^ (min (n : Int).toNat IntKind.u64.bits) = ((2 ^ n : Nat) : Int) := by
    rw [Int.toNat_natCast, Nat.min_eq_left (by show n ≤ 64; omega)]; simp
  rw [this, wrap64 (by omega)]
theorem wrap64_sub1 {a : Nat} (h : 1 ≤ a) (h2 : a < 9223372036854775808) : IntKind.u64.wrap ((a : Int) - 1) = ((a - 1 : Nat) : Int) := by
  have : (a : Int) - 1 = ((a - 1 : Nat) : Int) := by omega
  rw [this, wrap64 (by omega)]
theorem call_125 {x : Nat} (h : x < 65536) {H : Heap} : callI tab 87 [.int .i64 x] H = some (.int .u64 ((2 ^ Sort.bitsLen x : Nat) : Int), H) := by
  refine callI_enter tab_125 (by simp [AF125]) (.inr (by simp)) ?_
  have b : Sort.bitsLen x ≤ 60 := (Sort.bitsLen_le_iff x 60).2 (by omega)
  have e : IntKind.u64.wrap (x : Int) = x := wrap64 (by omega)
  simp -implicitDefEqProofs (disch := first | omega | with_unfolding_all exact eqR (Eq.refl _)) [nums, -getElem!_pos, -Int.natCast_add, -Int.natCast_mul, -Int.natCast_ediv, AF125, e, call_101 h, shlU_one b, -Int.natCast_pow]
theorem call_126 {j : Nat} {x : Int} {H : Heap} (hj : j < H.next) (hd : H.obj j = .cells [.int .u64 x] none) :
    Res (callI tab 88 [.ptr j 0] H) fun v H' => ∃ r r' : Int, v = .int .u64 r ∧ Wr H H' j (.cells [.int .u64 r'] none) := by
  refine .hide fun Q hQ => .enter tab_126 (by simp [AF126]) (.inr (by simp)) ?_
  simp -implicitDefEqProofs (disch := first | omega | with_unfolding_all exact eqR (Eq.refl _)) [nums, -getElem!_pos, -Int.natCast_add, -Int.natCast_mul, -Int.natCast_ediv, AF126, hd, load1, store1]
  obtain ⟨H2, e, w⟩ := Fx.wrap (H := H) (o := .cells [.int .u64 _] none) (v := .int .u64 _) (Wr.trans (.set (H := H.begin) hj) (.trans (.set hj) (.set hj))).toFx rfl rfl rfl
  rw [e]
  exact .mk (hQ _ _ ⟨_, _, rfl, w⟩)
section
variable {g id len lo : Nat} {ex : Bool} {c : Mo → Mo → Int} {s : List Jtm} {k : KF} {Q : AV → Heap → Prop}
theorem call_112 (hc : CmpM g c) {a b : Nat} {H : Heap} {d : Array Mo} (hi : id < H.next) (hd : H.obj id = .cells (tM.arr d) none) (hb : b ≤ len) (ha : 12 < b - a) (hl : len ≤ d.size) (hs : d.size < 2 ^ 40) :
    Res (callI tab 76 [.sl id 0 len lo ex 8, .int .i64 a, .int .i64 b, .fn g [] []] H) fun v H' => H' = H ∧ ∃ (p : Nat) (h : Int), v = .tup [.int .i64 p, .int .i64 h] ∧ a ≤ p ∧ p < b := by
  refine .hide fun Q hQ => .enter tab_112 (by simp [AF112]) (.inl rfl) ?_
  have hd1 : (H.begin.new (.cells [.int .i64 0] none)).obj id = .cells (tM.arr d) none := by rw [new_obj, if_neg (by show id ≠ H.next; omega)]; exact hd
  have hij : id ≠ H.next := by omega
  have hj1 : H.next < (H.begin.new (.cells [.int .i64 0] none)).next := by show H.next < H.next + 1; omega
  have hi1 : id < (H.begin.new (.cells [.int .i64 0] none)).next := by show id < H.next + 1; omega
  have hsw1 : (H.begin.new (.cells [.int .i64 0] none)).obj H.next = .cells [.int .i64 0] none := by simp
  by_cases h50 : 50 ≤ b - a
  · simp -implicitDefEqProofs (disch := first | omega | with_unfolding_all exact eqR (Eq.refl _)) [nums, -getElem!_pos, -Int.natCast_add, -Int.natCast_mul, -Int.natCast_ediv, AF112, S112_0]
    refine .call (call_127 (len := len) (lo := lo) (ex := ex) (L := a) (U := b) hc hd1 hj1 hi1 hij hsw1 (by omega) hb hl hs) fun e1 H1 ⟨x1, s1, he, c1, w1⟩ => ?_
    subst he
    simp -implicitDefEqProofs (disch := first | omega | with_unfolding_all exact eqR (Eq.refl _)) [nums, -getElem!_pos, -Int.natCast_add, -Int.natCast_mul, -Int.natCast_ediv]
    refine .call (call_127 (len := len) (lo := lo) (ex := ex) (L := a) (U := b) hc ((w1.ne hi1 hij).trans hd1) (by rw [w1.nxt]; exact hj1) (by rw [w1.nxt]; exact hi1) hij w1.at (by omega) hb hl hs) fun e1 H2 ⟨x2, s2, he, c2, w2⟩ => ?_
    subst he
    have w12 := w1.trans w2
    simp -implicitDefEqProofs (disch := first | omega | with_unfolding_all exact eqR (Eq.refl _)) [nums, -getElem!_pos, -Int.natCast_add, -Int.natCast_mul, -Int.natCast_ediv]
    refine .call (call_127 (len := len) (lo := lo) (ex := ex) (L := a) (U := b) hc ((w12.ne hi1 hij).trans hd1) (by rw [w12.nxt]; exact hj1) (by rw [w12.nxt]; exact hi1) hij w12.at (by omega) hb hl hs) fun e1 H3 ⟨x3, s3, he, c3, w3⟩ => ?_
    subst he
    have w123 := w12.trans w3
    simp -implicitDefEqProofs (disch := first | omega | with_unfolding_all exact eqR (Eq.refl _)) [nums, -getElem!_pos, -Int.natCast_add, -Int.natCast_mul, -Int.natCast_ediv]
    refine .call (call_128 (len := len) (lo := lo) (ex := ex) (L := a) (U := b) hc ((w123.ne hi1 hij).trans hd1) (by rw [w123.nxt]; exact hj1) (by rw [w123.nxt]; exact hi1) hij w123.at ⟨c1, c2, c3⟩ hb hl hs) fun e1 H4 ⟨x4, sw, he, ⟨p1, p2⟩, w4⟩ => ?_
    subst he
    have w := w123.trans w4
    · skip
      have hws := own_ws w rfl (Nat.le_refl _)
      have hsw := w.at
      by_cases q0 : sw = 0
      · simp -implicitDefEqProofs (disch := first | omega | with_unfolding_all exact eqR (Eq.refl _)) [nums, -getElem!_pos, -Int.natCast_add, -Int.natCast_mul, -Int.natCast_ediv, S112_1, hsw, load1, q0]
        try rw [wrap_quiet hws rfl]
        exact .mk (hQ _ _ ⟨rfl, _, _, rfl, p1, p2⟩)
      · by_cases q1 : sw = 12
        · simp -implicitDefEqProofs (disch := first | omega | with_unfolding_all exact eqR (Eq.refl _)) [nums, -getElem!_pos, -Int.natCast_add, -Int.natCast_mul, -Int.natCast_ediv, S112_1, hsw, load1, q0, q1]
          try rw [wrap_quiet hws rfl]
          exact .mk (hQ _ _ ⟨rfl, _, _, rfl, p1, p2⟩)
        · simp -implicitDefEqProofs (disch := first | omega | with_unfolding_all exact eqR (Eq.refl _)) [nums, -getElem!_pos, -Int.natCast_add, -Int.natCast_mul, -Int.natCast_ediv, S112_1, hsw, load1, q0, q1]
          try rw [wrap_quiet hws rfl]
          exact .mk (hQ _ _ ⟨rfl, _, _, rfl, p1, p2⟩)
  · simp -implicitDefEqProofs (disch := first | omega | with_unfolding_all exact eqR (Eq.refl _)) [nums, -getElem!_pos, -Int.natCast_add, -Int.natCast_mul, -Int.natCast_ediv, AF112, S112_0]
    refine .call (call_128 (len := len) (lo := lo) (ex := ex) (L := a) (U := b) hc hd1 hj1 hi1 hij hsw1 (by omega) hb hl hs) fun e1 H4 ⟨x4, sw, he, ⟨p1, p2⟩, w⟩ => ?_
    subst he
    · skip
      have hws := own_ws w rfl (Nat.le_refl _)
      have hsw := w.at
      by_cases q0 : sw = 0
      · simp -implicitDefEqProofs (disch := first | omega | with_unfolding_all exact eqR (Eq.refl _)) [nums, -getElem!_pos, -Int.natCast_add, -Int.natCast_mul, -Int.natCast_ediv, S112_1, hsw, load1, q0]
        try rw [wrap_quiet hws rfl]
        exact .mk (hQ _ _ ⟨rfl, _, _, rfl, p1, p2⟩)
      · by_cases q1 : sw = 12
        · simp -implicitDefEqProofs (disch := first | omega | with_unfolding_all exact eqR (Eq.refl _)) [nums, -getElem!_pos, -Int.natCast_add, -Int.natCast_mul, -Int.natCast_ediv, S112_1, hsw, load1, q0, q1]
          try rw [wrap_quiet hws rfl]
          exact .mk (hQ _ _ ⟨rfl, _, _, rfl, p1, p2⟩)
        · simp -implicitDefEqProofs (disch := first | omega | with_unfolding_all exact eqR (Eq.refl _)) [nums, -getElem!_pos, -Int.natCast_add, -Int.natCast_mul, -Int.natCast_ediv, S112_1, hsw, load1, q0, q1]
          try rw [wrap_quiet hws rfl]
          exact .mk (hQ _ _ ⟨rfl, _, _, rfl, p1, p2⟩)
theorem l111_3 {a b m j : Nat} {H0 : Heap} (hab : 8 ≤ b - a) (hb : b ≤ len) (hm1 : 1 ≤ m) (hm : m ≤ 2 * (b - a)) (hj0 : H0.next ≤ j) (hjb : H0.base ≤ j) (hj1 : id < H0.next) : ∀ (q idx : Nat) (σ : Sig) (H : Heap) (d : Array Mo) (x : Int), a + (b - a) / 4 * 2 + 2 - idx = q → a + (b - a) / 4 * 2 - 1 ≤ idx → σ 0 = .sl id 0 len lo ex 8 → σ 1 = .int .i64 (a : Nat) → σ 8 = .int .i64 ((b - a) : Nat) → σ 9 = .ptr j 0 → σ 10 = .int .u64 (m : Nat) → σ 11 = .int .i64 (idx : Nat) →
    Fx H0 H id (.cells (tM.arr d) none) → j < H.next → H.obj j = .cells [.int .u64 x] none → len ≤ d.size → d.size < 2 ^ 40 →
    (∀ σ' H' d', Sort.PermIn a b d d' → Fx H0 H' id (.cells (tM.arr d') none) → Res (ai (callI tab) s k .nrm σ' H') Q) →
    Res (li (callI tab) L111_3 (.inBlock 0 :: s) k σ H) Q := by
  intro q
  induction q with
  | zero =>
    intro idx σ H d x hq hx h0 h1 h8 h9 h10 h11 hf hj hr hl hs hQ
    obtain ⟨il, hil⟩ : ∃ x, x = Jtm.inLoop L111_3 := ⟨_, rfl⟩; rw [li_eq' il hil]
    simp -implicitDefEqProofs (disch := first | omega | with_unfolding_all exact eqR (Eq.refl _)) [nums, -getElem!_pos, -Int.natCast_add, -Int.natCast_mul, -Int.natCast_ediv, L111_3, S111_2, h0, h1, h8, h9, h10, h11]
    subst hil
    try simp -implicitDefEqProofs (disch := first | omega | with_unfolding_all exact eqR (Eq.refl _)) [nums, -getElem!_pos, -Int.natCast_add, -Int.natCast_mul, -Int.natCast_ediv]
    exact hQ _ _ d (Sort.permIn_refl _ _ _) hf
  | succ q ih =>
    intro idx σ H d x hq hx h0 h1 h8 h9 h10 h11 hf hj hr hl hs hQ
    have hd := hf.at
    obtain ⟨il, hil⟩ : ∃ x, x = Jtm.inLoop L111_3 := ⟨_, rfl⟩; rw [li_eq' il hil]
    simp -implicitDefEqProofs (disch := first | omega | with_unfolding_all exact eqR (Eq.refl _)) [nums, -getElem!_pos, -Int.natCast_add, -Int.natCast_mul, -Int.natCast_ediv, L111_3, S111_2, h0, h1, h8, h9, h10, h11]
    refine .call (call_126 hj hr) fun e1 H2 ⟨r, r', he, w⟩ => ?_
    subst he
    have hf2 := hf.own w.toFx hj0 hjb
    have hd2 := hf2.at
    obtain ⟨o, ho, eo⟩ := andK_le r (m := m - 1) (by omega)
    have hid2 : id < H2.next := Nat.lt_of_lt_of_le hj1 hf2.next
    have hne : j ≠ id := by omega
    by_cases hlo : b - a ≤ o
    · simp -implicitDefEqProofs (disch := first | omega | with_unfolding_all exact eqR (Eq.refl _)) [nums, -getElem!_pos, -Int.natCast_add, -Int.natCast_mul, -Int.natCast_ediv, S111_0, S111_1, h0, h1, h8, h9, h10, h11, eo, wrap64_sub1, hd2, loadM, storeM, storeM2]
      subst hil
      try simp -implicitDefEqProofs (disch := first | omega | with_unfolding_all exact eqR (Eq.refl _)) [nums, -getElem!_pos, -Int.natCast_add, -Int.natCast_mul, -Int.natCast_ediv]
      have hp := Sort.swp_permIn d a b idx (a + (o - (b - a))) (by omega) (by omega) (by omega) (by omega) (by omega)
      refine ih (idx + 1) _ _ (Sort.swp d idx (a + (o - (b - a)))) r' (by omega) (by omega) ?_ ?_ ?_ ?_ ?_ ?_ (hf2.trans (Wr.trans (.set hid2) (.set hid2)).toFx) (by show j < H2.next; rw [w.nxt]; exact hj) ?_ (by rw [swp_size]; exact hl) (by rw [swp_size]; exact hs) fun σ' H' d' hp' hf' => hQ σ' H' d' (Sort.permIn_trans _ _ _ _ _ hp hp') hf'
      all_goals (first | (simp [h0, h1, h8, h9, h10, h11, w.at, hne, Sort.swp]; done) | skip)
    · simp -implicitDefEqProofs (disch := first | omega | with_unfolding_all exact eqR (Eq.refl _)) [nums, -getElem!_pos, -Int.natCast_add, -Int.natCast_mul, -Int.natCast_ediv, S111_0, S111_1, h0, h1, h8, h9, h10, h11, eo, wrap64_sub1, hd2, loadM, storeM, storeM2]
      subst hil
      try simp -implicitDefEqProofs (disch := first | omega | with_unfolding_all exact eqR (Eq.refl _)) [nums, -getElem!_pos, -Int.natCast_add, -Int.natCast_mul, -Int.natCast_ediv]
      have hp := Sort.swp_permIn d a b idx (a + o) (by omega) (by omega) (by omega) (by omega) (by omega)
      refine ih (idx + 1) _ _ (Sort.swp d idx (a + o)) r' (by omega) (by omega) ?_ ?_ ?_ ?_ ?_ ?_ (hf2.trans (Wr.trans (.set hid2) (.set hid2)).toFx) (by show j < H2.next; rw [w.nxt]; exact hj) ?_ (by rw [swp_size]; exact hl) (by rw [swp_size]; exact hs) fun σ' H' d' hp' hf' => hQ σ' H' d' (Sort.permIn_trans _ _ _ _ _ hp hp') hf'
      all_goals (first | (simp [h0, h1, h8, h9, h10, h11, w.at, hne, Sort.swp]; done) | skip)
theorem call_111 {a b : Nat} {cv : AV} {H : Heap} {d : Array Mo} (hi : id < H.next) (hd : H.obj id = (.cells (tM.arr d) none)) (hb : b ≤ len) (ha : 8 ≤ b - a) (hlen : b - a < 65536) (hl : len ≤ d.size) (hs : d.size < 2 ^ 40) :
    Res (callI tab 75 [.sl id 0 len lo ex 8, .int .i64 a, .int .i64 b, cv] H) fun v H' => v = .tup [] ∧ ∃ d', Sort.PermIn a b d d' ∧ Wr H H' id (.cells (tM.arr d') none) := by
  refine .hide fun Q hQ => .enter tab_111 (by simp [AF111]) (.inl rfl) ?_
  have e0 : IntKind.u64.wrap ((b - a : Nat) : Int) = (b - a : Nat) := wrap64 (by omega)
  have m1 := Sort.lt_two_pow_bitsLen (b - a)
  have m2 := Sort.two_pow_bitsLen_le (n := b - a) (by omega)
  simp -implicitDefEqProofs (disch := first | omega | with_unfolding_all exact eqR (Eq.refl _)) [nums, -getElem!_pos, -Int.natCast_add, -Int.natCast_mul, -Int.natCast_ediv, AF111, S111_4, e0, store1, call_125 hlen, -Int.natCast_pow]
  refine l111_3 (H0 := H.begin) (a := a) (b := b) (len := len) (lo := lo) (ex := ex) (j := H.next) (m := 2 ^ Sort.bitsLen (b - a)) ha hb (by omega) m2 (Nat.le_refl _) (Nat.le_refl _) hi _ (a + (b - a) / 4 * 2 - 1) _ _ d ((b - a : Nat) : Int) rfl (Nat.le_refl _) ?_ ?_ ?_ ?_ ?_ ?_ ?_ ?_ ?_ hl hs fun σ' H' d' hp hf => ?_
  any_goals (first | (simp; done) | skip)
  · refine Fx.own (Fx.new (Fx.refl hi hd)) (Wr.set ?_).toFx (Nat.le_refl _) (Nat.le_refl _)
    show H.next < H.next + 1; omega
  · simp -implicitDefEqProofs (disch := first | omega | with_unfolding_all exact eqR (Eq.refl _)) [nums, -getElem!_pos, -Int.natCast_add, -Int.natCast_mul, -Int.natCast_ediv]
    obtain ⟨H2, e, w⟩ := hf.wrapA (H := H) (v := .tup []) rfl
    rw [e]
    exact .mk (hQ _ _ ⟨rfl, d', hp, w⟩)
theorem call_132 {a b : Nat} {H : Heap} {d : Array Int} (hi : id < H.next) (hd : H.obj id = .cells (tB.arr d) none) (hb : b ≤ len) (ha : 12 < b - a) (hl : len ≤ d.size) (hs : d.size < 2 ^ 40) :
    Res (callI tab 95 [.sl id 0 len lo ex 1, .int .i64 a, .int .i64 b] H) fun v H' => H' = H ∧ ∃ (p : Nat) (h : Int), v = .tup [.int .i64 p, .int .i64 h] ∧ a ≤ p ∧ p < b := by
  refine .hide fun Q hQ => .enter tab_132 (by simp [AF132]) (.inl rfl) ?_
  have hd1 : (H.begin.new (.cells [.int .i64 0] none)).obj id = .cells (tB.arr d) none := by rw [new_obj, if_neg (by show id ≠ H.next; omega)]; exact hd
  have hij : id ≠ H.next := by omega
  have hj1 : H.next < (H.begin.new (.cells [.int .i64 0] none)).next := by show H.next < H.next + 1; omega
  have hi1 : id < (H.begin.new (.cells [.int .i64 0] none)).next := by show id < H.next + 1; omega
  have hsw1 : (H.begin.new (.cells [.int .i64 0] none)).obj H.next = .cells [.int .i64 0] none := by simp
  by_cases h50 : 50 ≤ b - a
  · simp -implicitDefEqProofs (disch := first | omega | with_unfolding_all exact eqR (Eq.refl _)) [nums, -getElem!_pos, -Int.natCast_add, -Int.natCast_mul, -Int.natCast_ediv, AF132, S132_0]
    refine .call (call_140 (len := len) (lo := lo) (ex := ex) (L := a) (U := b) hd1 hj1 hi1 hij hsw1 (by omega) hb hl hs) fun e1 H1 ⟨x1, s1, he, c1, w1⟩ => ?_
    subst he
    simp -implicitDefEqProofs (disch := first | omega | with_unfolding_all exact eqR (Eq.refl _)) [nums, -getElem!_pos, -Int.natCast_add, -Int.natCast_mul, -Int.natCast_ediv]
    refine .call (call_140 (len := len) (lo := lo) (ex := ex) (L := a) (U := b) ((w1.ne hi1 hij).trans hd1) (by rw [w1.nxt]; exact hj1) (by rw [w1.nxt]; exact hi1) hij w1.at (by omega) hb hl hs) fun e1 H2 ⟨x2, s2, he, c2, w2⟩ => ?_
    subst he
    have w12 := w1.trans w2
    simp -implicitDefEqProofs (disch := first | omega | with_unfolding_all exact eqR (Eq.refl _)) [nums, -getElem!_pos, -Int.natCast_add, -Int.natCast_mul, -Int.natCast_ediv]
    refine .call (call_140 (len := len) (lo := lo) (ex := ex) (L := a) (U := b) ((w12.ne hi1 hij).trans hd1) (by rw [w12.nxt]; exact hj1) (by rw [w12.nxt]; exact hi1) hij w12.at (by omega) hb hl hs) fun e1 H3 ⟨x3, s3, he, c3, w3⟩ => ?_
    subst he
    have w123 := w12.trans w3
    simp -implicitDefEqProofs (disch := first | omega | with_unfolding_all exact eqR (Eq.refl _)) [nums, -getElem!_pos, -Int.natCast_add, -Int.natCast_mul, -Int.natCast_ediv]
    refine .call (call_141 (len := len) (lo := lo) (ex := ex) (L := a) (U := b) ((w123.ne hi1 hij).trans hd1) (by rw [w123.nxt]; exact hj1) (by rw [w123.nxt]; exact hi1) hij w123.at ⟨c1, c2, c3⟩ hb hl hs) fun e1 H4 ⟨x4, sw, he, ⟨p1, p2⟩, w4⟩ => ?_
    subst he
    have w := w123.trans w4
    · skip
      have hws := own_ws w rfl (Nat.le_refl _)
      have hsw := w.at
      by_cases q0 : sw = 0
      · simp -implicitDefEqProofs (disch := first | omega | with_unfolding_all exact eqR (Eq.refl _)) [nums, -getElem!_pos, -Int.natCast_add, -Int.natCast_mul, -Int.natCast_ediv, S132_1, hsw, load1, q0]
        try rw [wrap_quiet hws rfl]
        exact .mk (hQ _ _ ⟨rfl, _, _, rfl, p1, p2⟩)
      · by_cases q1 : sw = 12
        · simp -implicitDefEqProofs (disch := first | omega | with_unfolding_all exact eqR (Eq.refl _)) [nums, -getElem!_pos, -Int.natCast_add, -Int.natCast_mul, -Int.natCast_ediv, S132_1, hsw, load1, q0, q1]
          try rw [wrap_quiet hws rfl]
          exact .mk (hQ _ _ ⟨rfl, _, _, rfl, p1, p2⟩)
        · simp -implicitDefEqProofs (disch := first | omega | with_unfolding_all exact eqR (Eq.refl _)) [nums, -getElem!_pos, -Int.natCast_add, -Int.natCast_mul, -Int.natCast_ediv, S132_1, hsw, load1, q0, q1]
          try rw [wrap_quiet hws rfl]
          exact .mk (hQ _ _ ⟨rfl, _, _, rfl, p1, p2⟩)
  · simp -implicitDefEqProofs (disch := first | omega | with_unfolding_all exact eqR (Eq.refl _)) [nums, -getElem!_pos, -Int.natCast_add, -Int.natCast_mul, -Int.natCast_ediv, AF132, S132_0]
    refine .call (call_141 (len := len) (lo := lo) (ex := ex) (L := a) (U := b) hd1 hj1 hi1 hij hsw1 (by omega) hb hl hs) fun e1 H4 ⟨x4, sw, he, ⟨p1, p2⟩, w⟩ => ?_
    subst he
    · skip
      have hws := own_ws w rfl (Nat.le_refl _)
      have hsw := w.at
      by_cases q0 : sw = 0
      · simp -implicitDefEqProofs (disch := first | omega | with_unfolding_all exact eqR (Eq.refl _)) [nums, -getElem!_pos, -Int.natCast_add, -Int.natCast_mul, -Int.natCast_ediv, S132_1, hsw, load1, q0]
        try rw [wrap_quiet hws rfl]
        exact .mk (hQ _ _ ⟨rfl, _, _, rfl, p1, p2⟩)
      · by_cases q1 : sw = 12
        · simp -implicitDefEqProofs (disch := first | omega | with_unfolding_all exact eqR (Eq.refl _)) [nums, -getElem!_pos, -Int.natCast_add, -Int.natCast_mul, -Int.natCast_ediv, S132_1, hsw, load1, q0, q1]
          try rw [wrap_quiet hws rfl]
          exact .mk (hQ _ _ ⟨rfl, _, _, rfl, p1, p2⟩)
        · simp -implicitDefEqProofs (disch := first | omega | with_unfolding_all exact eqR (Eq.refl _)) [nums, -getElem!_pos, -Int.natCast_add, -Int.natCast_mul, -Int.natCast_ediv, S132_1, hsw, load1, q0, q1]
          try rw [wrap_quiet hws rfl]
          exact .mk (hQ _ _ ⟨rfl, _, _, rfl, p1, p2⟩)
theorem l131_3 {a b m j : Nat} {H0 : Heap} (hab : 8 ≤ b - a) (hb : b ≤ len) (hm1 : 1 ≤ m) (hm : m ≤ 2 * (b - a)) (hj0 : H0.next ≤ j) (hjb : H0.base ≤ j) (hj1 : id < H0.next) : ∀ (q idx : Nat) (σ : Sig) (H : Heap) (d : Array Int) (x : Int), a + (b - a) / 4 * 2 + 2 - idx = q → a + (b - a) / 4 * 2 - 1 ≤ idx → σ 0 = .sl id 0 len lo ex 1 → σ 1 = .int .i64 (a : Nat) → σ 6 = .int .i64 ((b - a) : Nat) → σ 7 = .ptr j 0 → σ 8 = .int .u64 (m : Nat) → σ 9 = .int .i64 (idx : Nat) →
    Fx H0 H id (.cells (tB.arr d) none) → j < H.next → H.obj j = .cells [.int .u64 x] none → len ≤ d.size → d.size < 2 ^ 40 →
    (∀ σ' H' d', Sort.PermIn a b d d' → Fx H0 H' id (.cells (tB.arr d') none) → Res (ai (callI tab) s k .nrm σ' H') Q) →
    Res (li (callI tab) L131_3 (.inBlock 0 :: s) k σ H) Q := by
  intro q
  induction q with
  | zero =>
    intro idx σ H d x hq hx h0 h1 h8 h9 h10 h11 hf hj hr hl hs hQ
    obtain ⟨il, hil⟩ : ∃ x, x = Jtm.inLoop L131_3 := ⟨_, rfl⟩; rw [li_eq' il hil]
    simp -implicitDefEqProofs (disch := first | omega | with_unfolding_all exact eqR (Eq.refl _)) [nums, -getElem!_pos, -Int.natCast_add, -Int.natCast_mul, -Int.natCast_ediv, L131_3, S131_2, h0, h1, h8, h9, h10, h11]
    subst hil
    try simp -implicitDefEqProofs (disch := first | omega | with_unfolding_all exact eqR (Eq.refl _)) [nums, -getElem!_pos, -Int.natCast_add, -Int.natCast_mul, -Int.natCast_ediv]
    exact hQ _ _ d (Sort.permIn_refl _ _ _) hf
  | succ q ih =>
    intro idx σ H d x hq hx h0 h1 h8 h9 h10 h11 hf hj hr hl hs hQ
    have hd := hf.at
    obtain ⟨il, hil⟩ : ∃ x, x = Jtm.inLoop L131_3 := ⟨_, rfl⟩; rw [li_eq' il hil]
    simp -implicitDefEqProofs (disch := first | omega | with_unfolding_all exact eqR (Eq.refl _)) [nums, -getElem!_pos, -Int.natCast_add, -Int.natCast_mul, -Int.natCast_ediv, L131_3, S131_2, h0, h1, h8, h9, h10, h11]
    refine .call (call_126 hj hr) fun e1 H2 ⟨r, r', he, w⟩ => ?_
    subst he
    have hf2 := hf.own w.toFx hj0 hjb
    have hd2 := hf2.at
    obtain ⟨o, ho, eo⟩ := andK_le r (m := m - 1) (by omega)
    have hid2 : id < H2.next := Nat.lt_of_lt_of_le hj1 hf2.next
    have hne : j ≠ id := by omega
    by_cases hlo : b - a ≤ o
    · simp -implicitDefEqProofs (disch := first | omega | with_unfolding_all exact eqR (Eq.refl _)) [nums, -getElem!_pos, -Int.natCast_add, -Int.natCast_mul, -Int.natCast_ediv, S131_0, S131_1, h0, h1, h8, h9, h10, h11, eo, wrap64_sub1, hd2, loadB, storeB, storeB2]
      subst hil
      try simp -implicitDefEqProofs (disch := first | omega | with_unfolding_all exact eqR (Eq.refl _)) [nums, -getElem!_pos, -Int.natCast_add, -Int.natCast_mul, -Int.natCast_ediv]
      have hp := Sort.swp_permIn d a b idx (a + (o - (b - a))) (by omega) (by omega) (by omega) (by omega) (by omega)
      refine ih (idx + 1) _ _ (Sort.swp d idx (a + (o - (b - a)))) r' (by omega) (by omega) ?_ ?_ ?_ ?_ ?_ ?_ (hf2.trans (Wr.trans (.set hid2) (.set hid2)).toFx) (by show j < H2.next; rw [w.nxt]; exact hj) ?_ (by rw [swp_size]; exact hl) (by rw [swp_size]; exact hs) fun σ' H' d' hp' hf' => hQ σ' H' d' (Sort.permIn_trans _ _ _ _ _ hp hp') hf'
      all_goals (first | (simp [h0, h1, h8, h9, h10, h11, w.at, hne, Sort.swp]; done) | skip)
    · simp -implicitDefEqProofs (disch := first | omega | with_unfolding_all exact eqR (Eq.refl _)) [nums, -getElem!_pos, -Int.natCast_add, -Int.natCast_mul, -Int.natCast_ediv, S131_0, S131_1, h0, h1, h8, h9, h10, h11, eo, wrap64_sub1, hd2, loadB, storeB, storeB2]
      subst hil
      try simp -implicitDefEqProofs (disch := first | omega | with_unfolding_all exact eqR (Eq.refl _)) [nums, -getElem!_pos, -Int.natCast_add, -Int.natCast_mul, -Int.natCast_ediv]
      have hp := Sort.swp_permIn d a b idx (a + o) (by omega) (by omega) (by omega) (by omega) (by omega)
      refine ih (idx + 1) _ _ (Sort.swp d idx (a + o)) r' (by omega) (by omega) ?_ ?_ ?_ ?_ ?_ ?_ (hf2.trans (Wr.trans (.set hid2) (.set hid2)).toFx) (by show j < H2.next; rw [w.nxt]; exact hj) ?_ (by rw [swp_size]; exact hl) (by rw [swp_size]; exact hs) fun σ' H' d' hp' hf' => hQ σ' H' d' (Sort.permIn_trans _ _ _ _ _ hp hp') hf'
      all_goals (first | (simp [h0, h1, h8, h9, h10, h11, w.at, hne, Sort.swp]; done) | skip)
theorem call_131 {a b : Nat} {H : Heap} {d : Array Int} (hi : id < H.next) (hd : H.obj id = (.cells (tB.arr d) none)) (hb : b ≤ len) (ha : 8 ≤ b - a) (hlen : b - a < 65536) (hl : len ≤ d.size) (hs : d.size < 2 ^ 40) :
    Res (callI tab 94 [.sl id 0 len lo ex 1, .int .i64 a, .int .i64 b] H) fun v H' => v = .tup [] ∧ ∃ d', Sort.PermIn a b d d' ∧ Wr H H' id (.cells (tB.arr d') none) := by
  refine .hide fun Q hQ => .enter tab_131 (by simp [AF131]) (.inl rfl) ?_
  have e0 : IntKind.u64.wrap ((b - a : Nat) : Int) = (b - a : Nat) := wrap64 (by omega)
  have m1 := Sort.lt_two_pow_bitsLen (b - a)
  have m2 := Sort.two_pow_bitsLen_le (n := b - a) (by omega)
  simp -implicitDefEqProofs (disch := first | omega | with_unfolding_all exact eqR (Eq.refl _)) [nums, -getElem!_pos, -Int.natCast_add, -Int.natCast_mul, -Int.natCast_ediv, AF131, S131_4, e0, store1, call_125 hlen, -Int.natCast_pow]
  refine l131_3 (H0 := H.begin) (a := a) (b := b) (len := len) (lo := lo) (ex := ex) (j := H.next) (m := 2 ^ Sort.bitsLen (b - a)) ha hb (by omega) m2 (Nat.le_refl _) (Nat.le_refl _) hi _ (a + (b - a) / 4 * 2 - 1) _ _ d ((b - a : Nat) : Int) rfl (Nat.le_refl _) ?_ ?_ ?_ ?_ ?_ ?_ ?_ ?_ ?_ hl hs fun σ' H' d' hp hf => ?_
  any_goals (first | (simp; done) | skip)
  · refine Fx.own (Fx.new (Fx.refl hi hd)) (Wr.set ?_).toFx (Nat.le_refl _) (Nat.le_refl _)
    show H.next < H.next + 1; omega
  · simp -implicitDefEqProofs (disch := first | omega | with_unfolding_all exact eqR (Eq.refl _)) [nums, -getElem!_pos, -Int.natCast_add, -Int.natCast_mul, -Int.natCast_ediv]
    obtain ⟨H2, e, w⟩ := hf.wrapA (H := H) (v := .tup []) rfl
    rw [e]
    exact .mk (hQ _ _ ⟨rfl, d', hp, w⟩)
end
end Go.Mach.Ytl
set_option linter.unusedSimpArgs false
set_option linter.unusedVariables false
set_option maxRecDepth 100000
namespace Go.Mach.Ytl
open Go.Mach
section
variable {g id len lo : Nat} {ex : Bool} {c : Mo → Mo → Int} {s : List Jtm} {k : KF} {Q : AV → Heap → Prop}
theorem scanUp_bd {α : Type} [Inhabited α] (p : α → Bool) (d : Array α) {j i N : Nat} (hi : i < N) (hj : j + 1 < N) : Sort.scanUp p d j i < N := by
  by_cases h : i ≤ j + 1
  · have := (Sort.scanUp_spec p d j _ i rfl).2.1 h; omega
  · rw [Sort.scanUp, if_neg (by simp only [Bool.and_eq_true, decide_eq_true_eq]; omega)]; exact hi
theorem partLoop_size {α : Type} [Inhabited α] (lt : α → α → Bool) (a : Nat) (m : Nat) : ∀ i j (d : Array α), j + 1 - i ≤ m → (Sort.partLoop lt a i j d).2.size = d.size ∧ (Sort.partLoop lt a i j d).1 ≤ j := by
  induction m with
  | zero =>
    intro i j d h
    have := Sort.scanUp_ge (fun x => lt x d[a]!) d j i
    have := Sort.scanDown_le (fun x => !lt x d[a]!) d (Sort.scanUp (fun x => lt x d[a]!) d j i) j
    rw [Sort.partLoop_eq, if_pos (by omega)]
    exact ⟨rfl, by simp only []; omega⟩
  | succ m ih =>
    intro i j d h
    have := Sort.scanUp_ge (fun x => lt x d[a]!) d j i
    have := Sort.scanDown_le (fun x => !lt x d[a]!) d (Sort.scanUp (fun x => lt x d[a]!) d j i) j
    rw [Sort.partLoop_eq]
    split
    · exact ⟨rfl, by simp only []; omega⟩
    · have := ih (Sort.scanUp (fun x => lt x d[a]!) d j i + 1) (Sort.scanDown (fun x => !lt x d[a]!) d (Sort.scanUp (fun x => lt x d[a]!) d j i) j - 1) (Sort.swp d (Sort.scanUp (fun x => lt x d[a]!) d j i) (Sort.scanDown (fun x => !lt x d[a]!) d (Sort.scanUp (fun x => lt x d[a]!) d j i) j)) (by omega)
      exact ⟨by rw [this.1, swp_size], by omega⟩
theorem l115_1 (hc : CmpM g c) (a j : Nat) {H : Heap} {d : Array Mo} : ∀ (m i : Nat) (σ : Sig), j + 1 - i = m → σ 0 = .sl id 0 len lo ex 8 → σ 1 = .int .i64 (a : Nat) → σ 4 = .fn g [] [] → σ 11 = .int .i64 (i : Nat) → σ 12 = .int .i64 (j : Nat) → id < H.next → H.obj id = .cells (tM.arr d) none → a < len → j < len → 1 ≤ i → i < 2 ^ 41 → len ≤ d.size → d.size < 2 ^ 40 →
    (∀ σ', σ' 0 = .sl id 0 len lo ex 8 → σ' 1 = .int .i64 (a : Nat) → σ' 4 = .fn g [] [] → σ' 11 = .int .i64 (Sort.scanUp (fun x => !(ltc c) d[a]! x) d j i : Nat) → σ' 12 = .int .i64 (j : Nat) → Res (ai (callI tab) s k .nrm σ' H) Q) →
    Res (li (callI tab) L115_1 (.inBlock 2 :: s) k σ H) Q := by
  intro m
  induction m with
  | zero =>
    intro i σ hm h0 h1 h4 h11 h12 hid hd ha hj hp hi hl hs hQ
    have e : Sort.scanUp (fun x => !(ltc c) d[a]! x) d j i = i := by rw [Sort.scanUp, if_neg (by simp only [Bool.and_eq_true, decide_eq_true_eq]; omega)]
    rw [e] at hQ
    obtain ⟨il, hil⟩ : ∃ x, x = Jtm.inLoop L115_1 := ⟨_, rfl⟩; rw [li_eq' il hil]
    simp -implicitDefEqProofs (disch := first | omega | with_unfolding_all exact eqR (Eq.refl _)) [nums, -getElem!_pos, -Int.natCast_add, -Int.natCast_mul, -Int.natCast_ediv, L115_1, S115_0, h0, h1, h4, h11, h12, hd, hc _ _, loadM, storeM, storeM2]
    subst hil
    try simp -implicitDefEqProofs (disch := first | omega | with_unfolding_all exact eqR (Eq.refl _)) [nums, -getElem!_pos, -Int.natCast_add, -Int.natCast_mul, -Int.natCast_ediv]
    refine hQ _ ?_ ?_ ?_ ?_ ?_ <;> simp [h0, h1, h4, h11, h12]
  | succ m ih =>
    intro i σ hm h0 h1 h4 h11 h12 hid hd ha hj hp hi hl hs hQ
    by_cases c2 : c d[a]! d[i]! < 0
    · have e : Sort.scanUp (fun x => !(ltc c) d[a]! x) d j i = i := by
        rw [Sort.scanUp, if_neg (by simp only [Bool.and_eq_true, decide_eq_true_eq, ltc, c2]; simp)]
      rw [e] at hQ
      obtain ⟨il, hil⟩ : ∃ x, x = Jtm.inLoop L115_1 := ⟨_, rfl⟩; rw [li_eq' il hil]
      simp -implicitDefEqProofs (disch := first | omega | with_unfolding_all exact eqR (Eq.refl _)) [nums, -getElem!_pos, -Int.natCast_add, -Int.natCast_mul, -Int.natCast_ediv, L115_1, S115_0, h0, h1, h4, h11, h12, hd, hc _ _, loadM, storeM, storeM2]
      subst hil
      try simp -implicitDefEqProofs (disch := first | omega | with_unfolding_all exact eqR (Eq.refl _)) [nums, -getElem!_pos, -Int.natCast_add, -Int.natCast_mul, -Int.natCast_ediv]
      refine hQ _ ?_ ?_ ?_ ?_ ?_ <;> simp [h0, h1, h4, h11, h12]
      
    · have e : Sort.scanUp (fun x => !(ltc c) d[a]! x) d j i = Sort.scanUp (fun x => !(ltc c) d[a]! x) d j (i + 1) := by
        rw [Sort.scanUp, if_pos (by simp only [Bool.and_eq_true, decide_eq_true_eq, ltc, c2]; simp; omega)]
      rw [e] at hQ
      obtain ⟨il, hil⟩ : ∃ x, x = Jtm.inLoop L115_1 := ⟨_, rfl⟩; rw [li_eq' il hil]
      simp -implicitDefEqProofs (disch := first | omega | with_unfolding_all exact eqR (Eq.refl _)) [nums, -getElem!_pos, -Int.natCast_add, -Int.natCast_mul, -Int.natCast_ediv, L115_1, S115_0, h0, h1, h4, h11, h12, hd, hc _ _, loadM, storeM, storeM2]
      subst hil
      try simp -implicitDefEqProofs (disch := first | omega | with_unfolding_all exact eqR (Eq.refl _)) [nums, -getElem!_pos, -Int.natCast_add, -Int.natCast_mul, -Int.natCast_ediv]
      refine ih (i + 1) _ (by omega) ?_ ?_ ?_ ?_ ?_ hid hd ha hj (by omega) (by omega) hl hs hQ
      all_goals simp [h0, h1, h4, h11, h12]
theorem l115_3 (hc : CmpM g c) (a i : Nat) {H : Heap} {d : Array Mo} : ∀ (j : Nat) (σ : Sig), σ 0 = .sl id 0 len lo ex 8 → σ 1 = .int .i64 (a : Nat) → σ 4 = .fn g [] [] → σ 11 = .int .i64 (i : Nat) → σ 12 = .int .i64 (j : Nat) → id < H.next → H.obj id = .cells (tM.arr d) none → a < len → j < len → 1 ≤ i → i < 2 ^ 41 → len ≤ d.size → d.size < 2 ^ 40 →
    (∀ σ', σ' 0 = .sl id 0 len lo ex 8 → σ' 1 = .int .i64 (a : Nat) → σ' 4 = .fn g [] [] → σ' 11 = .int .i64 (i : Nat) → σ' 12 = .int .i64 (Sort.scanDown (fun x => (ltc c) d[a]! x) d i j : Nat) → Res (ai (callI tab) s k .nrm σ' H) Q) →
    Res (li (callI tab) L115_3 (.inBlock 4 :: s) k σ H) Q := by
  intro j
  induction j with
  | zero =>
    intro σ h0 h1 h4 h11 h12 hid hd ha hj hp hi hl hs hQ
    have e : Sort.scanDown (fun x => (ltc c) d[a]! x) d i 0 = 0 := rfl
    rw [e] at hQ
    obtain ⟨il, hil⟩ : ∃ x, x = Jtm.inLoop L115_3 := ⟨_, rfl⟩; rw [li_eq' il hil]
    simp -implicitDefEqProofs (disch := first | omega | with_unfolding_all exact eqR (Eq.refl _)) [nums, -getElem!_pos, -Int.natCast_add, -Int.natCast_mul, -Int.natCast_ediv, L115_3, S115_2, h0, h1, h4, h11, h12, hd, hc _ _, loadM, storeM, storeM2]
    subst hil
    try simp -implicitDefEqProofs (disch := first | omega | with_unfolding_all exact eqR (Eq.refl _)) [nums, -getElem!_pos, -Int.natCast_add, -Int.natCast_mul, -Int.natCast_ediv]
    refine hQ _ ?_ ?_ ?_ ?_ ?_ <;> simp [h0, h1, h4, h11, h12]
  | succ j ih =>
    intro σ h0 h1 h4 h11 h12 hid hd ha hj hp hi hl hs hQ
    by_cases c1 : i ≤ j + 1
    · by_cases c2 : c d[a]! d[j + 1]! < 0
      · have e : Sort.scanDown (fun x => (ltc c) d[a]! x) d i (j + 1) = Sort.scanDown (fun x => (ltc c) d[a]! x) d i j := by
          rw [Sort.scanDown, if_pos (by simp only [Bool.and_eq_true, decide_eq_true_eq, ltc, c2]; simp; omega)]
        rw [e] at hQ
        obtain ⟨il, hil⟩ : ∃ x, x = Jtm.inLoop L115_3 := ⟨_, rfl⟩; rw [li_eq' il hil]
        simp -implicitDefEqProofs (disch := first | omega | with_unfolding_all exact eqR (Eq.refl _)) [nums, -getElem!_pos, -Int.natCast_add, -Int.natCast_mul, -Int.natCast_ediv, L115_3, S115_2, h0, h1, h4, h11, h12, hd, hc _ _, loadM, storeM, storeM2]
        subst hil
        try simp -implicitDefEqProofs (disch := first | omega | with_unfolding_all exact eqR (Eq.refl _)) [nums, -getElem!_pos, -Int.natCast_add, -Int.natCast_mul, -Int.natCast_ediv]
        refine ih _ ?_ ?_ ?_ ?_ ?_ hid hd ha (by omega) hp hi hl hs hQ
        all_goals simp [h0, h1, h4, h11, h12]
      · have e : Sort.scanDown (fun x => (ltc c) d[a]! x) d i (j + 1) = j + 1 := by
          rw [Sort.scanDown, if_neg (by simp only [Bool.and_eq_true, decide_eq_true_eq, ltc, c2]; simp)]
        rw [e] at hQ
        obtain ⟨il, hil⟩ : ∃ x, x = Jtm.inLoop L115_3 := ⟨_, rfl⟩; rw [li_eq' il hil]
        simp -implicitDefEqProofs (disch := first | omega | with_unfolding_all exact eqR (Eq.refl _)) [nums, -getElem!_pos, -Int.natCast_add, -Int.natCast_mul, -Int.natCast_ediv, L115_3, S115_2, h0, h1, h4, h11, h12, hd, hc _ _, loadM, storeM, storeM2]
        subst hil
        try simp -implicitDefEqProofs (disch := first | omega | with_unfolding_all exact eqR (Eq.refl _)) [nums, -getElem!_pos, -Int.natCast_add, -Int.natCast_mul, -Int.natCast_ediv]
        refine hQ _ ?_ ?_ ?_ ?_ ?_ <;> simp [h0, h1, h4, h11, h12]
        
    · have e : Sort.scanDown (fun x => (ltc c) d[a]! x) d i (j + 1) = j + 1 := by
        rw [Sort.scanDown, if_neg (by simp only [Bool.and_eq_true, decide_eq_true_eq]; omega)]
      rw [e] at hQ
      obtain ⟨il, hil⟩ : ∃ x, x = Jtm.inLoop L115_3 := ⟨_, rfl⟩; rw [li_eq' il hil]
      simp -implicitDefEqProofs (disch := first | omega | with_unfolding_all exact eqR (Eq.refl _)) [nums, -getElem!_pos, -Int.natCast_add, -Int.natCast_mul, -Int.natCast_ediv, L115_3, S115_2, h0, h1, h4, h11, h12, hd, hc _ _, loadM, storeM, storeM2]
      subst hil
      try simp -implicitDefEqProofs (disch := first | omega | with_unfolding_all exact eqR (Eq.refl _)) [nums, -getElem!_pos, -Int.natCast_add, -Int.natCast_mul, -Int.natCast_ediv]
      refine hQ _ ?_ ?_ ?_ ?_ ?_ <;> simp [h0, h1, h4, h11, h12]
theorem l116_1 (hc : CmpM g c) (a j : Nat) {H : Heap} {d : Array Mo} : ∀ (m i : Nat) (σ : Sig), j + 1 - i = m → σ 0 = .sl id 0 len lo ex 8 → σ 1 = .int .i64 (a : Nat) → σ 4 = .fn g [] [] → σ 12 = .int .i64 (i : Nat) → σ 13 = .int .i64 (j : Nat) → id < H.next → H.obj id = .cells (tM.arr d) none → a < len → j < len → 1 ≤ i → i < 2 ^ 41 → len ≤ d.size → d.size < 2 ^ 40 →
    (∀ σ', σ' 0 = .sl id 0 len lo ex 8 → σ' 1 = .int .i64 (a : Nat) → σ' 4 = .fn g [] [] → σ' 12 = .int .i64 (Sort.scanUp (fun x => (ltc c) x d[a]!) d j i : Nat) → σ' 13 = .int .i64 (j : Nat) → Res (ai (callI tab) s k .nrm σ' H) Q) →
    Res (li (callI tab) L116_1 (.inBlock 0 :: s) k σ H) Q := by
  intro m
  induction m with
  | zero =>
    intro i σ hm h0 h1 h4 h12 h13 hid hd ha hj hp hi hl hs hQ
    have e : Sort.scanUp (fun x => (ltc c) x d[a]!) d j i = i := by rw [Sort.scanUp, if_neg (by simp only [Bool.and_eq_true, decide_eq_true_eq]; omega)]
    rw [e] at hQ
    obtain ⟨il, hil⟩ : ∃ x, x = Jtm.inLoop L116_1 := ⟨_, rfl⟩; rw [li_eq' il hil]
    simp -implicitDefEqProofs (disch := first | omega | with_unfolding_all exact eqR (Eq.refl _)) [nums, -getElem!_pos, -Int.natCast_add, -Int.natCast_mul, -Int.natCast_ediv, L116_1, S116_0, h0, h1, h4, h12, h13, hd, hc _ _, loadM, storeM, storeM2]
    subst hil
    try simp -implicitDefEqProofs (disch := first | omega | with_unfolding_all exact eqR (Eq.refl _)) [nums, -getElem!_pos, -Int.natCast_add, -Int.natCast_mul, -Int.natCast_ediv]
    refine hQ _ ?_ ?_ ?_ ?_ ?_ <;> simp [h0, h1, h4, h12, h13]
  | succ m ih =>
    intro i σ hm h0 h1 h4 h12 h13 hid hd ha hj hp hi hl hs hQ
    by_cases c2 : c d[i]! d[a]! < 0
    · have e : Sort.scanUp (fun x => (ltc c) x d[a]!) d j i = Sort.scanUp (fun x => (ltc c) x d[a]!) d j (i + 1) := by
        rw [Sort.scanUp, if_pos (by simp only [Bool.and_eq_true, decide_eq_true_eq, ltc, c2]; simp; omega)]
      rw [e] at hQ
      obtain ⟨il, hil⟩ : ∃ x, x = Jtm.inLoop L116_1 := ⟨_, rfl⟩; rw [li_eq' il hil]
      simp -implicitDefEqProofs (disch := first | omega | with_unfolding_all exact eqR (Eq.refl _)) [nums, -getElem!_pos, -Int.natCast_add, -Int.natCast_mul, -Int.natCast_ediv, L116_1, S116_0, h0, h1, h4, h12, h13, hd, hc _ _, loadM, storeM, storeM2]
      subst hil
      try simp -implicitDefEqProofs (disch := first | omega | with_unfolding_all exact eqR (Eq.refl _)) [nums, -getElem!_pos, -Int.natCast_add, -Int.natCast_mul, -Int.natCast_ediv]
      refine ih (i + 1) _ (by omega) ?_ ?_ ?_ ?_ ?_ hid hd ha hj (by omega) (by omega) hl hs hQ
      all_goals simp [h0, h1, h4, h12, h13]
    · have e : Sort.scanUp (fun x => (ltc c) x d[a]!) d j i = i := by
        rw [Sort.scanUp, if_neg (by simp only [Bool.and_eq_true, decide_eq_true_eq, ltc, c2]; simp)]
      rw [e] at hQ
      obtain ⟨il, hil⟩ : ∃ x, x = Jtm.inLoop L116_1 := ⟨_, rfl⟩; rw [li_eq' il hil]
      simp -implicitDefEqProofs (disch := first | omega | with_unfolding_all exact eqR (Eq.refl _)) [nums, -getElem!_pos, -Int.natCast_add, -Int.natCast_mul, -Int.natCast_ediv, L116_1, S116_0, h0, h1, h4, h12, h13, hd, hc _ _, loadM, storeM, storeM2]
      subst hil
      try simp -implicitDefEqProofs (disch := first | omega | with_unfolding_all exact eqR (Eq.refl _)) [nums, -getElem!_pos, -Int.natCast_add, -Int.natCast_mul, -Int.natCast_ediv]
      refine hQ _ ?_ ?_ ?_ ?_ ?_ <;> simp [h0, h1, h4, h12, h13]
      
theorem l116_3 (hc : CmpM g c) (a i : Nat) {H : Heap} {d : Array Mo} : ∀ (j : Nat) (σ : Sig), σ 0 = .sl id 0 len lo ex 8 → σ 1 = .int .i64 (a : Nat) → σ 4 = .fn g [] [] → σ 12 = .int .i64 (i : Nat) → σ 13 = .int .i64 (j : Nat) → id < H.next → H.obj id = .cells (tM.arr d) none → a < len → j < len → 1 ≤ i → i < 2 ^ 41 → len ≤ d.size → d.size < 2 ^ 40 →
    (∀ σ', σ' 0 = .sl id 0 len lo ex 8 → σ' 1 = .int .i64 (a : Nat) → σ' 4 = .fn g [] [] → σ' 12 = .int .i64 (i : Nat) → σ' 13 = .int .i64 (Sort.scanDown (fun x => !(ltc c) x d[a]!) d i j : Nat) → Res (ai (callI tab) s k .nrm σ' H) Q) →
    Res (li (callI tab) L116_3 (.inBlock 2 :: s) k σ H) Q := by
  intro j
  induction j with
  | zero =>
    intro σ h0 h1 h4 h12 h13 hid hd ha hj hp hi hl hs hQ
    have e : Sort.scanDown (fun x => !(ltc c) x d[a]!) d i 0 = 0 := rfl
    rw [e] at hQ
    obtain ⟨il, hil⟩ : ∃ x, x = Jtm.inLoop L116_3 := ⟨_, rfl⟩; rw [li_eq' il hil]
    simp -implicitDefEqProofs (disch := first | omega | with_unfolding_all exact eqR (Eq.refl _)) [nums, -getElem!_pos, -Int.natCast_add, -Int.natCast_mul, -Int.natCast_ediv, L116_3, S116_2, h0, h1, h4, h12, h13, hd, hc _ _, loadM, storeM, storeM2]
    subst hil
    try simp -implicitDefEqProofs (disch := first | omega | with_unfolding_all exact eqR (Eq.refl _)) [nums, -getElem!_pos, -Int.natCast_add, -Int.natCast_mul, -Int.natCast_ediv]
    refine hQ _ ?_ ?_ ?_ ?_ ?_ <;> simp [h0, h1, h4, h12, h13]
  | succ j ih =>
    intro σ h0 h1 h4 h12 h13 hid hd ha hj hp hi hl hs hQ
    by_cases c1 : i ≤ j + 1
    · by_cases c2 : c d[j + 1]! d[a]! < 0
      · have e : Sort.scanDown (fun x => !(ltc c) x d[a]!) d i (j + 1) = j + 1 := by
          rw [Sort.scanDown, if_neg (by simp only [Bool.and_eq_true, decide_eq_true_eq, ltc, c2]; simp)]
        rw [e] at hQ
        obtain ⟨il, hil⟩ : ∃ x, x = Jtm.inLoop L116_3 := ⟨_, rfl⟩; rw [li_eq' il hil]
        simp -implicitDefEqProofs (disch := first | omega | with_unfolding_all exact eqR (Eq.refl _)) [nums, -getElem!_pos, -Int.natCast_add, -Int.natCast_mul, -Int.natCast_ediv, L116_3, S116_2, h0, h1, h4, h12, h13, hd, hc _ _, loadM, storeM, storeM2]
        subst hil
        try simp -implicitDefEqProofs (disch := first | omega | with_unfolding_all exact eqR (Eq.refl _)) [nums, -getElem!_pos, -Int.natCast_add, -Int.natCast_mul, -Int.natCast_ediv]
        refine hQ _ ?_ ?_ ?_ ?_ ?_ <;> simp [h0, h1, h4, h12, h13]
        
      · have e : Sort.scanDown (fun x => !(ltc c) x d[a]!) d i (j + 1) = Sort.scanDown (fun x => !(ltc c) x d[a]!) d i j := by
          rw [Sort.scanDown, if_pos (by simp only [Bool.and_eq_true, decide_eq_true_eq, ltc, c2]; simp; omega)]
        rw [e] at hQ
        obtain ⟨il, hil⟩ : ∃ x, x = Jtm.inLoop L116_3 := ⟨_, rfl⟩; rw [li_eq' il hil]
        simp -implicitDefEqProofs (disch := first | omega | with_unfolding_all exact eqR (Eq.refl _)) [nums, -getElem!_pos, -Int.natCast_add, -Int.natCast_mul, -Int.natCast_ediv, L116_3, S116_2, h0, h1, h4, h12, h13, hd, hc _ _, loadM, storeM, storeM2]
        subst hil
        try simp -implicitDefEqProofs (disch := first | omega | with_unfolding_all exact eqR (Eq.refl _)) [nums, -getElem!_pos, -Int.natCast_add, -Int.natCast_mul, -Int.natCast_ediv]
        refine ih _ ?_ ?_ ?_ ?_ ?_ hid hd ha (by omega) hp hi hl hs hQ
        all_goals simp [h0, h1, h4, h12, h13]
    · have e : Sort.scanDown (fun x => !(ltc c) x d[a]!) d i (j + 1) = j + 1 := by
        rw [Sort.scanDown, if_neg (by simp only [Bool.and_eq_true, decide_eq_true_eq]; omega)]
      rw [e] at hQ
      obtain ⟨il, hil⟩ : ∃ x, x = Jtm.inLoop L116_3 := ⟨_, rfl⟩; rw [li_eq' il hil]
      simp -implicitDefEqProofs (disch := first | omega | with_unfolding_all exact eqR (Eq.refl _)) [nums, -getElem!_pos, -Int.natCast_add, -Int.natCast_mul, -Int.natCast_ediv, L116_3, S116_2, h0, h1, h4, h12, h13, hd, hc _ _, loadM, storeM, storeM2]
      subst hil
      try simp -implicitDefEqProofs (disch := first | omega | with_unfolding_all exact eqR (Eq.refl _)) [nums, -getElem!_pos, -Int.natCast_add, -Int.natCast_mul, -Int.natCast_ediv]
      refine hQ _ ?_ ?_ ?_ ?_ ?_ <;> simp [h0, h1, h4, h12, h13]
theorem l116_5 (hc : CmpM g c) (a j : Nat) {H : Heap} {d : Array Mo} : ∀ (m i : Nat) (σ : Sig), j + 1 - i = m → σ 0 = .sl id 0 len lo ex 8 → σ 1 = .int .i64 (a : Nat) → σ 4 = .fn g [] [] → σ 12 = .int .i64 (i : Nat) → σ 13 = .int .i64 (j : Nat) → id < H.next → H.obj id = .cells (tM.arr d) none → a < len → j < len → 1 ≤ i → i < 2 ^ 41 → len ≤ d.size → d.size < 2 ^ 40 →
    (∀ σ', σ' 0 = .sl id 0 len lo ex 8 → σ' 1 = .int .i64 (a : Nat) → σ' 4 = .fn g [] [] → σ' 12 = .int .i64 (Sort.scanUp (fun x => (ltc c) x d[a]!) d j i : Nat) → σ' 13 = .int .i64 (j : Nat) → Res (ai (callI tab) s k .nrm σ' H) Q) →
    Res (li (callI tab) L116_5 (.inBlock 6 :: s) k σ H) Q := by
  intro m
  induction m with
  | zero =>
    intro i σ hm h0 h1 h4 h12 h13 hid hd ha hj hp hi hl hs hQ
    have e : Sort.scanUp (fun x => (ltc c) x d[a]!) d j i = i := by rw [Sort.scanUp, if_neg (by simp only [Bool.and_eq_true, decide_eq_true_eq]; omega)]
    rw [e] at hQ
    obtain ⟨il, hil⟩ : ∃ x, x = Jtm.inLoop L116_5 := ⟨_, rfl⟩; rw [li_eq' il hil]
    simp -implicitDefEqProofs (disch := first | omega | with_unfolding_all exact eqR (Eq.refl _)) [nums, -getElem!_pos, -Int.natCast_add, -Int.natCast_mul, -Int.natCast_ediv, L116_5, S116_4, h0, h1, h4, h12, h13, hd, hc _ _, loadM, storeM, storeM2]
    subst hil
    try simp -implicitDefEqProofs (disch := first | omega | with_unfolding_all exact eqR (Eq.refl _)) [nums, -getElem!_pos, -Int.natCast_add, -Int.natCast_mul, -Int.natCast_ediv]
    refine hQ _ ?_ ?_ ?_ ?_ ?_ <;> simp [h0, h1, h4, h12, h13]
  | succ m ih =>
    intro i σ hm h0 h1 h4 h12 h13 hid hd ha hj hp hi hl hs hQ
    by_cases c2 : c d[i]! d[a]! < 0
    · have e : Sort.scanUp (fun x => (ltc c) x d[a]!) d j i = Sort.scanUp (fun x => (ltc c) x d[a]!) d j (i + 1) := by
        rw [Sort.scanUp, if_pos (by simp only [Bool.and_eq_true, decide_eq_true_eq, ltc, c2]; simp; omega)]
      rw [e] at hQ
      obtain ⟨il, hil⟩ : ∃ x, x = Jtm.inLoop L116_5 := ⟨_, rfl⟩; rw [li_eq' il hil]
      simp -implicitDefEqProofs (disch := first | omega | with_unfolding_all exact eqR (Eq.refl _)) [nums, -getElem!_pos, -Int.natCast_add, -Int.natCast_mul, -Int.natCast_ediv, L116_5, S116_4, h0, h1, h4, h12, h13, hd, hc _ _, loadM, storeM, storeM2]
      subst hil
      try simp -implicitDefEqProofs (disch := first | omega | with_unfolding_all exact eqR (Eq.refl _)) [nums, -getElem!_pos, -Int.natCast_add, -Int.natCast_mul, -Int.natCast_ediv]
      refine ih (i + 1) _ (by omega) ?_ ?_ ?_ ?_ ?_ hid hd ha hj (by omega) (by omega) hl hs hQ
      all_goals simp [h0, h1, h4, h12, h13]
    · have e : Sort.scanUp (fun x => (ltc c) x d[a]!) d j i = i := by
        rw [Sort.scanUp, if_neg (by simp only [Bool.and_eq_true, decide_eq_true_eq, ltc, c2]; simp)]
      rw [e] at hQ
      obtain ⟨il, hil⟩ : ∃ x, x = Jtm.inLoop L116_5 := ⟨_, rfl⟩; rw [li_eq' il hil]
      simp -implicitDefEqProofs (disch := first | omega | with_unfolding_all exact eqR (Eq.refl _)) [nums, -getElem!_pos, -Int.natCast_add, -Int.natCast_mul, -Int.natCast_ediv, L116_5, S116_4, h0, h1, h4, h12, h13, hd, hc _ _, loadM, storeM, storeM2]
      subst hil
      try simp -implicitDefEqProofs (disch := first | omega | with_unfolding_all exact eqR (Eq.refl _)) [nums, -getElem!_pos, -Int.natCast_add, -Int.natCast_mul, -Int.natCast_ediv]
      refine hQ _ ?_ ?_ ?_ ?_ ?_ <;> simp [h0, h1, h4, h12, h13]
      
theorem l116_7 (hc : CmpM g c) (a i : Nat) {H : Heap} {d : Array Mo} : ∀ (j : Nat) (σ : Sig), σ 0 = .sl id 0 len lo ex 8 → σ 1 = .int .i64 (a : Nat) → σ 4 = .fn g [] [] → σ 12 = .int .i64 (i : Nat) → σ 13 = .int .i64 (j : Nat) → id < H.next → H.obj id = .cells (tM.arr d) none → a < len → j < len → 1 ≤ i → i < 2 ^ 41 → len ≤ d.size → d.size < 2 ^ 40 →
    (∀ σ', σ' 0 = .sl id 0 len lo ex 8 → σ' 1 = .int .i64 (a : Nat) → σ' 4 = .fn g [] [] → σ' 12 = .int .i64 (i : Nat) → σ' 13 = .int .i64 (Sort.scanDown (fun x => !(ltc c) x d[a]!) d i j : Nat) → Res (ai (callI tab) s k .nrm σ' H) Q) →
    Res (li (callI tab) L116_7 (.inBlock 8 :: s) k σ H) Q := by
  intro j
  induction j with
  | zero =>
    intro σ h0 h1 h4 h12 h13 hid hd ha hj hp hi hl hs hQ
    have e : Sort.scanDown (fun x => !(ltc c) x d[a]!) d i 0 = 0 := rfl
    rw [e] at hQ
    obtain ⟨il, hil⟩ : ∃ x, x = Jtm.inLoop L116_7 := ⟨_, rfl⟩; rw [li_eq' il hil]
    simp -implicitDefEqProofs (disch := first | omega | with_unfolding_all exact eqR (Eq.refl _)) [nums, -getElem!_pos, -Int.natCast_add, -Int.natCast_mul, -Int.natCast_ediv, L116_7, S116_6, h0, h1, h4, h12, h13, hd, hc _ _, loadM, storeM, storeM2]
    subst hil
    try simp -implicitDefEqProofs (disch := first | omega | with_unfolding_all exact eqR (Eq.refl _)) [nums, -getElem!_pos, -Int.natCast_add, -Int.natCast_mul, -Int.natCast_ediv]
    refine hQ _ ?_ ?_ ?_ ?_ ?_ <;> simp [h0, h1, h4, h12, h13]
  | succ j ih =>
    intro σ h0 h1 h4 h12 h13 hid hd ha hj hp hi hl hs hQ
    by_cases c1 : i ≤ j + 1
    · by_cases c2 : c d[j + 1]! d[a]! < 0
      · have e : Sort.scanDown (fun x => !(ltc c) x d[a]!) d i (j + 1) = j + 1 := by
          rw [Sort.scanDown, if_neg (by simp only [Bool.and_eq_true, decide_eq_true_eq, ltc, c2]; simp)]
        rw [e] at hQ
        obtain ⟨il, hil⟩ : ∃ x, x = Jtm.inLoop L116_7 := ⟨_, rfl⟩; rw [li_eq' il hil]
        simp -implicitDefEqProofs (disch := first | omega | with_unfolding_all exact eqR (Eq.refl _)) [nums, -getElem!_pos, -Int.natCast_add, -Int.natCast_mul, -Int.natCast_ediv, L116_7, S116_6, h0, h1, h4, h12, h13, hd, hc _ _, loadM, storeM, storeM2]
        subst hil
        try simp -implicitDefEqProofs (disch := first | omega | with_unfolding_all exact eqR (Eq.refl _)) [nums, -getElem!_pos, -Int.natCast_add, -Int.natCast_mul, -Int.natCast_ediv]
        refine hQ _ ?_ ?_ ?_ ?_ ?_ <;> simp [h0, h1, h4, h12, h13]
        
      · have e : Sort.scanDown (fun x => !(ltc c) x d[a]!) d i (j + 1) = Sort.scanDown (fun x => !(ltc c) x d[a]!) d i j := by
          rw [Sort.scanDown, if_pos (by simp only [Bool.and_eq_true, decide_eq_true_eq, ltc, c2]; simp; omega)]
        rw [e] at hQ
        obtain ⟨il, hil⟩ : ∃ x, x = Jtm.inLoop L116_7 := ⟨_, rfl⟩; rw [li_eq' il hil]
        simp -implicitDefEqProofs (disch := first | omega | with_unfolding_all exact eqR (Eq.refl _)) [nums, -getElem!_pos, -Int.natCast_add, -Int.natCast_mul, -Int.natCast_ediv, L116_7, S116_6, h0, h1, h4, h12, h13, hd, hc _ _, loadM, storeM, storeM2]
        subst hil
        try simp -implicitDefEqProofs (disch := first | omega | with_unfolding_all exact eqR (Eq.refl _)) [nums, -getElem!_pos, -Int.natCast_add, -Int.natCast_mul, -Int.natCast_ediv]
        refine ih _ ?_ ?_ ?_ ?_ ?_ hid hd ha (by omega) hp hi hl hs hQ
        all_goals simp [h0, h1, h4, h12, h13]
    · have e : Sort.scanDown (fun x => !(ltc c) x d[a]!) d i (j + 1) = j + 1 := by
        rw [Sort.scanDown, if_neg (by simp only [Bool.and_eq_true, decide_eq_true_eq]; omega)]
      rw [e] at hQ
      obtain ⟨il, hil⟩ : ∃ x, x = Jtm.inLoop L116_7 := ⟨_, rfl⟩; rw [li_eq' il hil]
      simp -implicitDefEqProofs (disch := first | omega | with_unfolding_all exact eqR (Eq.refl _)) [nums, -getElem!_pos, -Int.natCast_add, -Int.natCast_mul, -Int.natCast_ediv, L116_7, S116_6, h0, h1, h4, h12, h13, hd, hc _ _, loadM, storeM, storeM2]
      subst hil
      try simp -implicitDefEqProofs (disch := first | omega | with_unfolding_all exact eqR (Eq.refl _)) [nums, -getElem!_pos, -Int.natCast_add, -Int.natCast_mul, -Int.natCast_ediv]
      refine hQ _ ?_ ?_ ?_ ?_ ?_ <;> simp [h0, h1, h4, h12, h13]
theorem l115_7 (hc : CmpM g c) (a : Nat) : ∀ (m i j : Nat) (σ : Sig) (H : Heap) (d : Array Mo), j + 1 - i ≤ m → σ 0 = .sl id 0 len lo ex 8 → σ 1 = .int .i64 (a : Nat) → σ 4 = .fn g [] [] → σ 11 = .int .i64 (i : Nat) → σ 12 = .int .i64 (j : Nat) →
    id < H.next → H.obj id = .cells (tM.arr d) none → a < len → j < len → 1 ≤ i → i < 2 ^ 41 → len ≤ d.size → d.size < 2 ^ 40 →
    (∀ σ' H', σ' 0 = .sl id 0 len lo ex 8 → σ' 1 = .int .i64 (a : Nat) → σ' 4 = .fn g [] [] → σ' 11 = .int .i64 ((Sort.partEqLoop (ltc c) a i j d).1 : Nat) → Wr H H' id (.cells (tM.arr (Sort.partEqLoop (ltc c) a i j d).2) none) → Res (ai (callI tab) s k .nrm σ' H') Q) →
    Res (li (callI tab) L115_7 (.inBlock 0 :: s) k σ H) Q := by
  intro m
  induction m with
  | zero =>
    intro i j σ H d hm h0 h1 h4 h11 h12 hid hd ha hj hp hi hl hs hQ
    have u1 := Sort.scanUp_ge (fun x => !(ltc c) d[a]! x) d j i
    have u2 := Sort.scanDown_le (fun x => (ltc c) d[a]! x) d (Sort.scanUp (fun x => !(ltc c) d[a]! x) d j i) j
    have u3 : Sort.scanUp (fun x => !(ltc c) d[a]! x) d j i < 2 ^ 41 := scanUp_bd _ _ hi (by omega)
    have e := Sort.partEqLoop_eq (ltc c) a i j d
    rw [if_pos (by omega)] at e
    rw [e] at hQ
    obtain ⟨il, hil⟩ : ∃ x, x = Jtm.inLoop L115_7 := ⟨_, rfl⟩; rw [li_eq' il hil]
    simp -implicitDefEqProofs (disch := first | omega | with_unfolding_all exact eqR (Eq.refl _)) [nums, -getElem!_pos, -Int.natCast_add, -Int.natCast_mul, -Int.natCast_ediv, L115_7]
    refine l115_1 (len := len) (lo := lo) (ex := ex) hc a j _ i σ rfl h0 h1 h4 h11 h12 hid hd ha hj hp hi hl hs fun σ1 q0 q1 q4 qi qj => ?_
    simp -implicitDefEqProofs (disch := first | omega | with_unfolding_all exact eqR (Eq.refl _)) [nums, -getElem!_pos, -Int.natCast_add, -Int.natCast_mul, -Int.natCast_ediv, S115_6]
    refine l115_3 (len := len) (lo := lo) (ex := ex) hc a _ j σ1 q0 q1 q4 qi qj hid hd ha hj (by omega) u3 hl hs fun σ2 r0 r1 r4 ri rj => ?_
    simp -implicitDefEqProofs (disch := first | omega | with_unfolding_all exact eqR (Eq.refl _)) [nums, -getElem!_pos, -Int.natCast_add, -Int.natCast_mul, -Int.natCast_ediv, S115_5, r0, r1, r4, ri, rj]
    subst hil
    try simp -implicitDefEqProofs (disch := first | omega | with_unfolding_all exact eqR (Eq.refl _)) [nums, -getElem!_pos, -Int.natCast_add, -Int.natCast_mul, -Int.natCast_ediv]
    refine hQ _ _ ?_ ?_ ?_ ?_ (.refl hid hd)
    all_goals simp [r0, r1, r4, ri, rj]
  | succ m ih =>
    intro i j σ H d hm h0 h1 h4 h11 h12 hid hd ha hj hp hi hl hs hQ
    have u1 := Sort.scanUp_ge (fun x => !(ltc c) d[a]! x) d j i
    have u2 := Sort.scanDown_le (fun x => (ltc c) d[a]! x) d (Sort.scanUp (fun x => !(ltc c) d[a]! x) d j i) j
    have u3 : Sort.scanUp (fun x => !(ltc c) d[a]! x) d j i < 2 ^ 41 := scanUp_bd _ _ hi (by omega)
    have e := Sort.partEqLoop_eq (ltc c) a i j d
    rw [e] at hQ
    obtain ⟨il, hil⟩ : ∃ x, x = Jtm.inLoop L115_7 := ⟨_, rfl⟩; rw [li_eq' il hil]
    simp -implicitDefEqProofs (disch := first | omega | with_unfolding_all exact eqR (Eq.refl _)) [nums, -getElem!_pos, -Int.natCast_add, -Int.natCast_mul, -Int.natCast_ediv, L115_7]
    refine l115_1 (len := len) (lo := lo) (ex := ex) hc a j _ i σ rfl h0 h1 h4 h11 h12 hid hd ha hj hp hi hl hs fun σ1 q0 q1 q4 qi qj => ?_
    simp -implicitDefEqProofs (disch := first | omega | with_unfolding_all exact eqR (Eq.refl _)) [nums, -getElem!_pos, -Int.natCast_add, -Int.natCast_mul, -Int.natCast_ediv, S115_6]
    refine l115_3 (len := len) (lo := lo) (ex := ex) hc a _ j σ1 q0 q1 q4 qi qj hid hd ha hj (by omega) u3 hl hs fun σ2 r0 r1 r4 ri rj => ?_
    clear e qi qj
    generalize hi2 : Sort.scanUp (fun x => !(ltc c) d[a]! x) d j i = i2 at *
    generalize hj2 : Sort.scanDown (fun x => (ltc c) d[a]! x) d i2 j = j2 at *
    by_cases c1 : i2 > j2
    · rw [if_pos c1] at hQ
      simp -implicitDefEqProofs (disch := first | omega | with_unfolding_all exact eqR (Eq.refl _)) [nums, -getElem!_pos, -Int.natCast_add, -Int.natCast_mul, -Int.natCast_ediv, S115_5, r0, r1, r4, ri, rj]
      subst hil
      try simp -implicitDefEqProofs (disch := first | omega | with_unfolding_all exact eqR (Eq.refl _)) [nums, -getElem!_pos, -Int.natCast_add, -Int.natCast_mul, -Int.natCast_ediv]
      refine hQ _ _ ?_ ?_ ?_ ?_ (.refl hid hd)
      all_goals simp [r0, r1, r4, ri, rj]
    · rw [if_neg c1] at hQ
      simp -implicitDefEqProofs (disch := first | omega | with_unfolding_all exact eqR (Eq.refl _)) [nums, -getElem!_pos, -Int.natCast_add, -Int.natCast_mul, -Int.natCast_ediv, S115_5, S115_4, r0, r1, r4, ri, rj, hd, loadM, storeM, storeM2]
      subst hil
      try simp -implicitDefEqProofs (disch := first | omega | with_unfolding_all exact eqR (Eq.refl _)) [nums, -getElem!_pos, -Int.natCast_add, -Int.natCast_mul, -Int.natCast_ediv]
      refine ih (i2 + 1) (j2 - 1) _ _ (Sort.swp d i2 j2) (by omega) ?_ ?_ ?_ ?_ ?_ (by exact hid) ?_ ha (by omega) (by omega) (by omega) (by rw [swp_size]; exact hl) (by rw [swp_size]; exact hs) fun σ' H' q0 q1 q4 qr hw => hQ σ' H' q0 q1 q4 qr (.trans (.trans (.set hid) (.set hid)) hw)
      all_goals simp [r0, r1, r4, ri, rj, Sort.swp]
theorem l116_11 (hc : CmpM g c) (a : Nat) : ∀ (m i j : Nat) (σ : Sig) (H : Heap) (d : Array Mo), j + 1 - i ≤ m → σ 0 = .sl id 0 len lo ex 8 → σ 1 = .int .i64 (a : Nat) → σ 4 = .fn g [] [] → σ 12 = .int .i64 (i : Nat) → σ 13 = .int .i64 (j : Nat) →
    id < H.next → H.obj id = .cells (tM.arr d) none → a < len → j < len → 1 ≤ i → i < 2 ^ 41 → len ≤ d.size → d.size < 2 ^ 40 →
    (∀ σ' H', σ' 0 = .sl id 0 len lo ex 8 → σ' 1 = .int .i64 (a : Nat) → σ' 4 = .fn g [] [] → σ' 13 = .int .i64 ((Sort.partLoop (ltc c) a i j d).1 : Nat) → Wr H H' id (.cells (tM.arr (Sort.partLoop (ltc c) a i j d).2) none) → Res (ai (callI tab) s k .nrm σ' H') Q) →
    Res (li (callI tab) L116_11 (.inBlock 4 :: s) k σ H) Q := by
  intro m
  induction m with
  | zero =>
    intro i j σ H d hm h0 h1 h4 h12 h13 hid hd ha hj hp hi hl hs hQ
    have u1 := Sort.scanUp_ge (fun x => (ltc c) x d[a]!) d j i
    have u2 := Sort.scanDown_le (fun x => !(ltc c) x d[a]!) d (Sort.scanUp (fun x => (ltc c) x d[a]!) d j i) j
    have u3 : Sort.scanUp (fun x => (ltc c) x d[a]!) d j i < 2 ^ 41 := scanUp_bd _ _ hi (by omega)
    have e := Sort.partLoop_eq (ltc c) a i j d
    rw [if_pos (by omega)] at e
    rw [e] at hQ
    obtain ⟨il, hil⟩ : ∃ x, x = Jtm.inLoop L116_11 := ⟨_, rfl⟩; rw [li_eq' il hil]
    simp -implicitDefEqProofs (disch := first | omega | with_unfolding_all exact eqR (Eq.refl _)) [nums, -getElem!_pos, -Int.natCast_add, -Int.natCast_mul, -Int.natCast_ediv, L116_11]
    refine l116_5 (len := len) (lo := lo) (ex := ex) hc a j _ i σ rfl h0 h1 h4 h12 h13 hid hd ha hj hp hi hl hs fun σ1 q0 q1 q4 qi qj => ?_
    simp -implicitDefEqProofs (disch := first | omega | with_unfolding_all exact eqR (Eq.refl _)) [nums, -getElem!_pos, -Int.natCast_add, -Int.natCast_mul, -Int.natCast_ediv, S116_10]
    refine l116_7 (len := len) (lo := lo) (ex := ex) hc a _ j σ1 q0 q1 q4 qi qj hid hd ha hj (by omega) u3 hl hs fun σ2 r0 r1 r4 ri rj => ?_
    simp -implicitDefEqProofs (disch := first | omega | with_unfolding_all exact eqR (Eq.refl _)) [nums, -getElem!_pos, -Int.natCast_add, -Int.natCast_mul, -Int.natCast_ediv, S116_9, r0, r1, r4, ri, rj]
    subst hil
    try simp -implicitDefEqProofs (disch := first | omega | with_unfolding_all exact eqR (Eq.refl _)) [nums, -getElem!_pos, -Int.natCast_add, -Int.natCast_mul, -Int.natCast_ediv]
    refine hQ _ _ ?_ ?_ ?_ ?_ (.refl hid hd)
    all_goals simp [r0, r1, r4, ri, rj]
  | succ m ih =>
    intro i j σ H d hm h0 h1 h4 h12 h13 hid hd ha hj hp hi hl hs hQ
    have u1 := Sort.scanUp_ge (fun x => (ltc c) x d[a]!) d j i
    have u2 := Sort.scanDown_le (fun x => !(ltc c) x d[a]!) d (Sort.scanUp (fun x => (ltc c) x d[a]!) d j i) j
    have u3 : Sort.scanUp (fun x => (ltc c) x d[a]!) d j i < 2 ^ 41 := scanUp_bd _ _ hi (by omega)
    have e := Sort.partLoop_eq (ltc c) a i j d
    rw [e] at hQ
    obtain ⟨il, hil⟩ : ∃ x, x = Jtm.inLoop L116_11 := ⟨_, rfl⟩; rw [li_eq' il hil]
    simp -implicitDefEqProofs (disch := first | omega | with_unfolding_all exact eqR (Eq.refl _)) [nums, -getElem!_pos, -Int.natCast_add, -Int.natCast_mul, -Int.natCast_ediv, L116_11]
    refine l116_5 (len := len) (lo := lo) (ex := ex) hc a j _ i σ rfl h0 h1 h4 h12 h13 hid hd ha hj hp hi hl hs fun σ1 q0 q1 q4 qi qj => ?_
    simp -implicitDefEqProofs (disch := first | omega | with_unfolding_all exact eqR (Eq.refl _)) [nums, -getElem!_pos, -Int.natCast_add, -Int.natCast_mul, -Int.natCast_ediv, S116_10]
    refine l116_7 (len := len) (lo := lo) (ex := ex) hc a _ j σ1 q0 q1 q4 qi qj hid hd ha hj (by omega) u3 hl hs fun σ2 r0 r1 r4 ri rj => ?_
    clear e qi qj
    generalize hi2 : Sort.scanUp (fun x => (ltc c) x d[a]!) d j i = i2 at *
    generalize hj2 : Sort.scanDown (fun x => !(ltc c) x d[a]!) d i2 j = j2 at *
    by_cases c1 : i2 > j2
    · rw [if_pos c1] at hQ
      simp -implicitDefEqProofs (disch := first | omega | with_unfolding_all exact eqR (Eq.refl _)) [nums, -getElem!_pos, -Int.natCast_add, -Int.natCast_mul, -Int.natCast_ediv, S116_9, r0, r1, r4, ri, rj]
      subst hil
      try simp -implicitDefEqProofs (disch := first | omega | with_unfolding_all exact eqR (Eq.refl _)) [nums, -getElem!_pos, -Int.natCast_add, -Int.natCast_mul, -Int.natCast_ediv]
      refine hQ _ _ ?_ ?_ ?_ ?_ (.refl hid hd)
      all_goals simp [r0, r1, r4, ri, rj]
    · rw [if_neg c1] at hQ
      simp -implicitDefEqProofs (disch := first | omega | with_unfolding_all exact eqR (Eq.refl _)) [nums, -getElem!_pos, -Int.natCast_add, -Int.natCast_mul, -Int.natCast_ediv, S116_9, S116_8, r0, r1, r4, ri, rj, hd, loadM, storeM, storeM2]
      subst hil
      try simp -implicitDefEqProofs (disch := first | omega | with_unfolding_all exact eqR (Eq.refl _)) [nums, -getElem!_pos, -Int.natCast_add, -Int.natCast_mul, -Int.natCast_ediv]
      refine ih (i2 + 1) (j2 - 1) _ _ (Sort.swp d i2 j2) (by omega) ?_ ?_ ?_ ?_ ?_ (by exact hid) ?_ ha (by omega) (by omega) (by omega) (by rw [swp_size]; exact hl) (by rw [swp_size]; exact hs) fun σ' H' q0 q1 q4 qr hw => hQ σ' H' q0 q1 q4 qr (.trans (.trans (.set hid) (.set hid)) hw)
      all_goals simp [r0, r1, r4, ri, rj, Sort.swp]
theorem call_115 (hc : CmpM g c) {a b p : Nat} {H : Heap} {d : Array Mo} (hid : id < H.next) (hd : H.obj id = (.cells (tM.arr d) none)) (hb : b ≤ len) (ha : a < b) (hp : p < b) (hl : len ≤ d.size) (hs : d.size < 2 ^ 40) :
    Res (callI tab 79 [.sl id 0 len lo ex 8, .int .i64 a, .int .i64 b, .int .i64 p, .fn g [] []] H) fun v H' => v = .int .i64 ((Sort.partitionEqual (ltc c) d a b p).1 : Nat) ∧ Wr H H' id (.cells (tM.arr (Sort.partitionEqual (ltc c) d a b p).2) none) := by
  refine .hide fun Q hQ => .enter tab_115 (by simp [AF115]) (.inl rfl) ?_
  have hid' : id < H.begin.next := hid
  simp -implicitDefEqProofs (disch := first | omega | with_unfolding_all exact eqR (Eq.refl _)) [nums, -getElem!_pos, -Int.natCast_add, -Int.natCast_mul, -Int.natCast_ediv, AF115, hd, loadM, storeM, storeM2]
  refine l115_7 (len := len) (lo := lo) (ex := ex) hc a _ (a + 1) (b - 1) _ _ (Sort.swp d a p) (Nat.le_refl _) ?_ ?_ ?_ ?_ ?_ (by exact hid) ?_ (by omega) (by omega) (by omega) (by omega) (by rw [swp_size]; exact hl) (by rw [swp_size]; exact hs) fun σ' H' q0 q1 q4 qr hw => ?_
  any_goals (first | (simp [Sort.swp]; done) | skip)
  simp -implicitDefEqProofs (disch := first | omega | with_unfolding_all exact eqR (Eq.refl _)) [nums, -getElem!_pos, -Int.natCast_add, -Int.natCast_mul, -Int.natCast_ediv, S115_8, qr]
  obtain ⟨H2, e, w⟩ := (Wr.trans (.trans (.set hid') (.set hid')) hw).toFx.wrapA (H := H) (v := .int .i64 _) rfl
  rw [e]
  exact .mk (hQ _ _ ⟨rfl, w⟩)
theorem call_116 (hc : CmpM g c) {a b p : Nat} {H : Heap} {d : Array Mo} (hid : id < H.next) (hd : H.obj id = (.cells (tM.arr d) none)) (hb : b ≤ len) (ha : a < b) (hp : p < b) (hl : len ≤ d.size) (hs : d.size < 2 ^ 40) :
    Res (callI tab 80 [.sl id 0 len lo ex 8, .int .i64 a, .int .i64 b, .int .i64 p, .fn g [] []] H) fun v H' => v = .tup [.int .i64 ((Sort.partition (ltc c) d a b p).1 : Nat), .bool (Sort.partition (ltc c) d a b p).2.1] ∧ Wr H H' id (.cells (tM.arr (Sort.partition (ltc c) d a b p).2.2) none) := by
  refine .hide fun Q hQ => .enter tab_116 (by simp [AF116]) (.inl rfl) ?_
  have hid' : id < H.begin.next := hid
  have u1 := Sort.scanUp_ge (fun x => (ltc c) x (Sort.swp d a p)[a]!) (Sort.swp d a p) (b - 1) (a + 1)
  have u2 := Sort.scanDown_le (fun x => !(ltc c) x (Sort.swp d a p)[a]!) (Sort.swp d a p) (Sort.scanUp (fun x => (ltc c) x (Sort.swp d a p)[a]!) (Sort.swp d a p) (b - 1) (a + 1)) (b - 1)
  have u3 : Sort.scanUp (fun x => (ltc c) x (Sort.swp d a p)[a]!) (Sort.swp d a p) (b - 1) (a + 1) < 2 ^ 41 := scanUp_bd _ _ (by omega) (by omega)
  have e : Sort.partition (ltc c) d a b p = if Sort.scanUp (fun x => (ltc c) x (Sort.swp d a p)[a]!) (Sort.swp d a p) (b - 1) (a + 1) > Sort.scanDown (fun x => !(ltc c) x (Sort.swp d a p)[a]!) (Sort.swp d a p) (Sort.scanUp (fun x => (ltc c) x (Sort.swp d a p)[a]!) (Sort.swp d a p) (b - 1) (a + 1)) (b - 1) then (Sort.scanDown (fun x => !(ltc c) x (Sort.swp d a p)[a]!) (Sort.swp d a p) (Sort.scanUp (fun x => (ltc c) x (Sort.swp d a p)[a]!) (Sort.swp d a p) (b - 1) (a + 1)) (b - 1), true, Sort.swp (Sort.swp d a p) (Sort.scanDown (fun x => !(ltc c) x (Sort.swp d a p)[a]!) (Sort.swp d a p) (Sort.scanUp (fun x => (ltc c) x (Sort.swp d a p)[a]!) (Sort.swp d a p) (b - 1) (a + 1)) (b - 1)) a) else
    ((Sort.partLoop (ltc c) a (Sort.scanUp (fun x => (ltc c) x (Sort.swp d a p)[a]!) (Sort.swp d a p) (b - 1) (a + 1) + 1) (Sort.scanDown (fun x => !(ltc c) x (Sort.swp d a p)[a]!) (Sort.swp d a p) (Sort.scanUp (fun x => (ltc c) x (Sort.swp d a p)[a]!) (Sort.swp d a p) (b - 1) (a + 1)) (b - 1) - 1) (Sort.swp (Sort.swp d a p) (Sort.scanUp (fun x => (ltc c) x (Sort.swp d a p)[a]!) (Sort.swp d a p) (b - 1) (a + 1)) (Sort.scanDown (fun x => !(ltc c) x (Sort.swp d a p)[a]!) (Sort.swp d a p) (Sort.scanUp (fun x => (ltc c) x (Sort.swp d a p)[a]!) (Sort.swp d a p) (b - 1) (a + 1)) (b - 1)))).1, false,
      Sort.swp (Sort.partLoop (ltc c) a (Sort.scanUp (fun x => (ltc c) x (Sort.swp d a p)[a]!) (Sort.swp d a p) (b - 1) (a + 1) + 1) (Sort.scanDown (fun x => !(ltc c) x (Sort.swp d a p)[a]!) (Sort.swp d a p) (Sort.scanUp (fun x => (ltc c) x (Sort.swp d a p)[a]!) (Sort.swp d a p) (b - 1) (a + 1)) (b - 1) - 1) (Sort.swp (Sort.swp d a p) (Sort.scanUp (fun x => (ltc c) x (Sort.swp d a p)[a]!) (Sort.swp d a p) (b - 1) (a + 1)) (Sort.scanDown (fun x => !(ltc c) x (Sort.swp d a p)[a]!) (Sort.swp d a p) (Sort.scanUp (fun x => (ltc c) x (Sort.swp d a p)[a]!) (Sort.swp d a p) (b - 1) (a + 1)) (b - 1)))).2 (Sort.partLoop (ltc c) a (Sort.scanUp (fun x => (ltc c) x (Sort.swp d a p)[a]!) (Sort.swp d a p) (b - 1) (a + 1) + 1) (Sort.scanDown (fun x => !(ltc c) x (Sort.swp d a p)[a]!) (Sort.swp d a p) (Sort.scanUp (fun x => (ltc c) x (Sort.swp d a p)[a]!) (Sort.swp d a p) (b - 1) (a + 1)) (b - 1) - 1) (Sort.swp (Sort.swp d a p) (Sort.scanUp (fun x => (ltc c) x (Sort.swp d a p)[a]!) (Sort.swp d a p) (b - 1) (a + 1)) (Sort.scanDown (fun x => !(ltc c) x (Sort.swp d a p)[a]!) (Sort.swp d a p) (Sort.scanUp (fun x => (ltc c) x (Sort.swp d a p)[a]!) (Sort.swp d a p) (b - 1) (a + 1)) (b - 1)))).1 a) := rfl
  rw [e] at hQ
  clear e
  simp -implicitDefEqProofs (disch := first | omega | with_unfolding_all exact eqR (Eq.refl _)) [nums, -getElem!_pos, -Int.natCast_add, -Int.natCast_mul, -Int.natCast_ediv, AF116, hd, loadM, storeM, storeM2]
  refine l116_1 (len := len) (lo := lo) (ex := ex) hc a (b - 1) (d := (Sort.swp d a p)) _ (a + 1) _ rfl ?_ ?_ ?_ ?_ ?_ (by exact hid) ?_ (by omega) (by omega) (by omega) (by omega) (by rw [swp_size]; exact hl) (by rw [swp_size]; exact hs) fun σ1 q0 q1 q4 qi qj => ?_
  any_goals (first | (simp [Sort.swp]; done) | skip)
  simp -implicitDefEqProofs (disch := first | omega | with_unfolding_all exact eqR (Eq.refl _)) [nums, -getElem!_pos, -Int.natCast_add, -Int.natCast_mul, -Int.natCast_ediv, S116_15]
  refine l116_3 (len := len) (lo := lo) (ex := ex) hc a _ (d := (Sort.swp d a p)) (b - 1) σ1 q0 q1 q4 qi qj (by exact hid) (by simp [Sort.swp]) (by omega) (by omega) (by omega) u3 (by rw [swp_size]; exact hl) (by rw [swp_size]; exact hs) fun σ2 r0 r1 r4 ri rj => ?_
  clear qi qj
  generalize hi2 : Sort.scanUp (fun x => (ltc c) x (Sort.swp d a p)[a]!) (Sort.swp d a p) (b - 1) (a + 1) = i2 at *
  generalize hj2 : Sort.scanDown (fun x => !(ltc c) x (Sort.swp d a p)[a]!) (Sort.swp d a p) i2 (b - 1) = j2 at *
  have sz : (Sort.swp d a p).size = d.size := swp_size _ _ _
  generalize hd1 : (Sort.swp d a p) = d1 at *
  have hd1' : ((H.begin.set id (AObj.cells (tM.arr (d.setIfInBounds a d[p]!)) none)).set id (AObj.cells (tM.arr ((d.setIfInBounds a d[p]!).setIfInBounds p d[a]!)) none)).obj id = .cells (tM.arr d1) none := by rw [← hd1]; simp [Sort.swp]
  have w1 : Wr H.begin ((H.begin.set id (AObj.cells (tM.arr (d.setIfInBounds a d[p]!)) none)).set id (AObj.cells (tM.arr ((d.setIfInBounds a d[p]!).setIfInBounds p d[a]!)) none)) id (.cells (tM.arr d1) none) := by rw [← hd1]; exact .trans (.set hid') (.set hid')
  generalize hH1 : (H.begin.set id (AObj.cells (tM.arr (d.setIfInBounds a d[p]!)) none)).set id (AObj.cells (tM.arr ((d.setIfInBounds a d[p]!).setIfInBounds p d[a]!)) none) = H1 at *
  have hid1 : id < H1.next := by rw [w1.nxt]; exact hid
  by_cases c1 : i2 > j2
  · rw [if_pos c1] at hQ
    simp -implicitDefEqProofs (disch := first | omega | with_unfolding_all exact eqR (Eq.refl _)) [nums, -getElem!_pos, -Int.natCast_add, -Int.natCast_mul, -Int.natCast_ediv, S116_14, r0, r1, r4, ri, rj, hd1', loadM, storeM, storeM2]
    obtain ⟨H2, e, w⟩ := (w1.trans (Wr.trans (o2 := .cells (tM.arr (Sort.swp d1 j2 a)) none) (.set hid1) (.set hid1))).toFx.wrapA (H := H) (v := .tup [.int .i64 j2, .bool true]) rfl
    simp only [Sort.swp] at e
    rw [e]
    exact .mk (hQ _ _ ⟨rfl, w⟩)
  · rw [if_neg c1] at hQ
    simp -implicitDefEqProofs (disch := first | omega | with_unfolding_all exact eqR (Eq.refl _)) [nums, -getElem!_pos, -Int.natCast_add, -Int.natCast_mul, -Int.natCast_ediv, S116_14, S116_13, r0, r1, r4, ri, rj, hd1', loadM, storeM, storeM2]
    have pz := partLoop_size (ltc c) a _ (i2 + 1) (j2 - 1) (Sort.swp d1 i2 j2) (Nat.le_refl _)
    rw [swp_size] at pz
    refine l116_11 (len := len) (lo := lo) (ex := ex) hc a _ (i2 + 1) (j2 - 1) _ _ (Sort.swp d1 i2 j2) (Nat.le_refl _) ?_ ?_ ?_ ?_ ?_ (by exact hid1) ?_ (by omega) (by omega) (by omega) (by omega) (by rw [swp_size]; omega) (by rw [swp_size]; omega) fun σ3 H3 t0 t1 t4 tr hw => ?_
    any_goals (first | (simp [r0, r1, r4, ri, rj, Sort.swp]; done) | skip)
    generalize hR : Sort.partLoop (ltc c) a (i2 + 1) (j2 - 1) (Sort.swp d1 i2 j2) = R at *
    have hd3 := hw.at
    have hid3 : id < H3.next := by rw [hw.nxt]; exact hid1
    have w3 : Wr H.begin H3 id (.cells (tM.arr R.2) none) := w1.trans (.trans (.trans (.set hid1) (.set hid1)) hw)
    simp -implicitDefEqProofs (disch := first | omega | with_unfolding_all exact eqR (Eq.refl _)) [nums, -getElem!_pos, -Int.natCast_add, -Int.natCast_mul, -Int.natCast_ediv, S116_12, t0, t1, t4, tr, hd3, loadM, storeM, storeM2]
    obtain ⟨H2, e, w⟩ := (w3.trans (Wr.trans (o2 := .cells (tM.arr (Sort.swp R.2 R.1 a)) none) (.set hid3) (.set hid3))).toFx.wrapA (H := H) (v := .tup [.int .i64 R.1, .bool false]) rfl
    simp only [Sort.swp] at e
    rw [e]
    exact .mk (hQ _ _ ⟨rfl, w⟩)
theorem l136_1 (a j : Nat) {H : Heap} {d : Array Int} : ∀ (m i : Nat) (σ : Sig), j + 1 - i = m → σ 0 = .sl id 0 len lo ex 1 → σ 1 = .int .i64 (a : Nat) → σ 9 = .int .i64 (i : Nat) → σ 10 = .int .i64 (j : Nat) → id < H.next → H.obj id = .cells (tB.arr d) none → a < len → j < len → 1 ≤ i → i < 2 ^ 41 → len ≤ d.size → d.size < 2 ^ 40 →
    (∀ σ', σ' 0 = .sl id 0 len lo ex 1 → σ' 1 = .int .i64 (a : Nat) → σ' 9 = .int .i64 (Sort.scanUp (fun x => !ltB d[a]! x) d j i : Nat) → σ' 10 = .int .i64 (j : Nat) → Res (ai (callI tab) s k .nrm σ' H) Q) →
    Res (li (callI tab) L136_1 (.inBlock 2 :: s) k σ H) Q := by
  intro m
  induction m with
  | zero =>
    intro i σ hm h0 h1 h11 h12 hid hd ha hj hp hi hl hs hQ
    have e : Sort.scanUp (fun x => !ltB d[a]! x) d j i = i := by rw [Sort.scanUp, if_neg (by simp only [Bool.and_eq_true, decide_eq_true_eq]; omega)]
    rw [e] at hQ
    obtain ⟨il, hil⟩ : ∃ x, x = Jtm.inLoop L136_1 := ⟨_, rfl⟩; rw [li_eq' il hil]
    simp -implicitDefEqProofs (disch := first | omega | with_unfolding_all exact eqR (Eq.refl _)) [nums, -getElem!_pos, -Int.natCast_add, -Int.natCast_mul, -Int.natCast_ediv, L136_1, S136_0, h0, h1, h11, h12, hd, call_135, loadB, storeB, storeB2]
    subst hil
    try simp -implicitDefEqProofs (disch := first | omega | with_unfolding_all exact eqR (Eq.refl _)) [nums, -getElem!_pos, -Int.natCast_add, -Int.natCast_mul, -Int.natCast_ediv]
    refine hQ _ ?_ ?_ ?_ ?_ <;> simp [h0, h1, h11, h12]
  | succ m ih =>
    intro i σ hm h0 h1 h11 h12 hid hd ha hj hp hi hl hs hQ
    by_cases c2 : d[a]! < d[i]!
    · have e : Sort.scanUp (fun x => !ltB d[a]! x) d j i = i := by
        rw [Sort.scanUp, if_neg (by simp only [Bool.and_eq_true, decide_eq_true_eq, ltB, c2]; simp)]
      rw [e] at hQ
      obtain ⟨il, hil⟩ : ∃ x, x = Jtm.inLoop L136_1 := ⟨_, rfl⟩; rw [li_eq' il hil]
      simp -implicitDefEqProofs (disch := first | omega | with_unfolding_all exact eqR (Eq.refl _)) [nums, -getElem!_pos, -Int.natCast_add, -Int.natCast_mul, -Int.natCast_ediv, L136_1, S136_0, h0, h1, h11, h12, hd, call_135, loadB, storeB, storeB2]
      subst hil
      try simp -implicitDefEqProofs (disch := first | omega | with_unfolding_all exact eqR (Eq.refl _)) [nums, -getElem!_pos, -Int.natCast_add, -Int.natCast_mul, -Int.natCast_ediv]
      refine hQ _ ?_ ?_ ?_ ?_ <;> simp [h0, h1, h11, h12]
      
    · have e : Sort.scanUp (fun x => !ltB d[a]! x) d j i = Sort.scanUp (fun x => !ltB d[a]! x) d j (i + 1) := by
        rw [Sort.scanUp, if_pos (by simp only [Bool.and_eq_true, decide_eq_true_eq, ltB, c2]; simp; omega)]
      rw [e] at hQ
      obtain ⟨il, hil⟩ : ∃ x, x = Jtm.inLoop L136_1 := ⟨_, rfl⟩; rw [li_eq' il hil]
      simp -implicitDefEqProofs (disch := first | omega | with_unfolding_all exact eqR (Eq.refl _)) [nums, -getElem!_pos, -Int.natCast_add, -Int.natCast_mul, -Int.natCast_ediv, L136_1, S136_0, h0, h1, h11, h12, hd, call_135, loadB, storeB, storeB2]
      subst hil
      try simp -implicitDefEqProofs (disch := first | omega | with_unfolding_all exact eqR (Eq.refl _)) [nums, -getElem!_pos, -Int.natCast_add, -Int.natCast_mul, -Int.natCast_ediv]
      refine ih (i + 1) _ (by omega) ?_ ?_ ?_ ?_ hid hd ha hj (by omega) (by omega) hl hs hQ
      all_goals simp [h0, h1, h11, h12]
theorem l136_3 (a i : Nat) {H : Heap} {d : Array Int} : ∀ (j : Nat) (σ : Sig), σ 0 = .sl id 0 len lo ex 1 → σ 1 = .int .i64 (a : Nat) → σ 9 = .int .i64 (i : Nat) → σ 10 = .int .i64 (j : Nat) → id < H.next → H.obj id = .cells (tB.arr d) none → a < len → j < len → 1 ≤ i → i < 2 ^ 41 → len ≤ d.size → d.size < 2 ^ 40 →
    (∀ σ', σ' 0 = .sl id 0 len lo ex 1 → σ' 1 = .int .i64 (a : Nat) → σ' 9 = .int .i64 (i : Nat) → σ' 10 = .int .i64 (Sort.scanDown (fun x => ltB d[a]! x) d i j : Nat) → Res (ai (callI tab) s k .nrm σ' H) Q) →
    Res (li (callI tab) L136_3 (.inBlock 4 :: s) k σ H) Q := by
  intro j
  induction j with
  | zero =>
    intro σ h0 h1 h11 h12 hid hd ha hj hp hi hl hs hQ
    have e : Sort.scanDown (fun x => ltB d[a]! x) d i 0 = 0 := rfl
    rw [e] at hQ
    obtain ⟨il, hil⟩ : ∃ x, x = Jtm.inLoop L136_3 := ⟨_, rfl⟩; rw [li_eq' il hil]
    simp -implicitDefEqProofs (disch := first | omega | with_unfolding_all exact eqR (Eq.refl _)) [nums, -getElem!_pos, -Int.natCast_add, -Int.natCast_mul, -Int.natCast_ediv, L136_3, S136_2, h0, h1, h11, h12, hd, call_135, loadB, storeB, storeB2]
    subst hil
    try simp -implicitDefEqProofs (disch := first | omega | with_unfolding_all exact eqR (Eq.refl _)) [nums, -getElem!_pos, -Int.natCast_add, -Int.natCast_mul, -Int.natCast_ediv]
    refine hQ _ ?_ ?_ ?_ ?_ <;> simp [h0, h1, h11, h12]
  | succ j ih =>
    intro σ h0 h1 h11 h12 hid hd ha hj hp hi hl hs hQ
    by_cases c1 : i ≤ j + 1
    · by_cases c2 : d[a]! < d[j + 1]!
      · have e : Sort.scanDown (fun x => ltB d[a]! x) d i (j + 1) = Sort.scanDown (fun x => ltB d[a]! x) d i j := by
          rw [Sort.scanDown, if_pos (by simp only [Bool.and_eq_true, decide_eq_true_eq, ltB, c2]; simp; omega)]
        rw [e] at hQ
        obtain ⟨il, hil⟩ : ∃ x, x = Jtm.inLoop L136_3 := ⟨_, rfl⟩; rw [li_eq' il hil]
        simp -implicitDefEqProofs (disch := first | omega | with_unfolding_all exact eqR (Eq.refl _)) [nums, -getElem!_pos, -Int.natCast_add, -Int.natCast_mul, -Int.natCast_ediv, L136_3, S136_2, h0, h1, h11, h12, hd, call_135, loadB, storeB, storeB2]
        subst hil
        try simp -implicitDefEqProofs (disch := first | omega | with_unfolding_all exact eqR (Eq.refl _)) [nums, -getElem!_pos, -Int.natCast_add, -Int.natCast_mul, -Int.natCast_ediv]
        refine ih _ ?_ ?_ ?_ ?_ hid hd ha (by omega) hp hi hl hs hQ
        all_goals simp [h0, h1, h11, h12]
      · have e : Sort.scanDown (fun x => ltB d[a]! x) d i (j + 1) = j + 1 := by
          rw [Sort.scanDown, if_neg (by simp only [Bool.and_eq_true, decide_eq_true_eq, ltB, c2]; simp)]
        rw [e] at hQ
        obtain ⟨il, hil⟩ : ∃ x, x = Jtm.inLoop L136_3 := ⟨_, rfl⟩; rw [li_eq' il hil]
        simp -implicitDefEqProofs (disch := first | omega | with_unfolding_all exact eqR (Eq.refl _)) [nums, -getElem!_pos, -Int.natCast_add, -Int.natCast_mul, -Int.natCast_ediv, L136_3, S136_2, h0, h1, h11, h12, hd, call_135, loadB, storeB, storeB2]
        subst hil
        try simp -implicitDefEqProofs (disch := first | omega | with_unfolding_all exact eqR (Eq.refl _)) [nums, -getElem!_pos, -Int.natCast_add, -Int.natCast_mul, -Int.natCast_ediv]
        refine hQ _ ?_ ?_ ?_ ?_ <;> simp [h0, h1, h11, h12]
        
    · have e : Sort.scanDown (fun x => ltB d[a]! x) d i (j + 1) = j + 1 := by
        rw [Sort.scanDown, if_neg (by simp only [Bool.and_eq_true, decide_eq_true_eq]; omega)]
      rw [e] at hQ
      obtain ⟨il, hil⟩ : ∃ x, x = Jtm.inLoop L136_3 := ⟨_, rfl⟩; rw [li_eq' il hil]
      simp -implicitDefEqProofs (disch := first | omega | with_unfolding_all exact eqR (Eq.refl _)) [nums, -getElem!_pos, -Int.natCast_add, -Int.natCast_mul, -Int.natCast_ediv, L136_3, S136_2, h0, h1, h11, h12, hd, call_135, loadB, storeB, storeB2]
      subst hil
      try simp -implicitDefEqProofs (disch := first | omega | with_unfolding_all exact eqR (Eq.refl _)) [nums, -getElem!_pos, -Int.natCast_add, -Int.natCast_mul, -Int.natCast_ediv]
      refine hQ _ ?_ ?_ ?_ ?_ <;> simp [h0, h1, h11, h12]
theorem l137_1 (a j : Nat) {H : Heap} {d : Array Int} : ∀ (m i : Nat) (σ : Sig), j + 1 - i = m → σ 0 = .sl id 0 len lo ex 1 → σ 1 = .int .i64 (a : Nat) → σ 10 = .int .i64 (i : Nat) → σ 11 = .int .i64 (j : Nat) → id < H.next → H.obj id = .cells (tB.arr d) none → a < len → j < len → 1 ≤ i → i < 2 ^ 41 → len ≤ d.size → d.size < 2 ^ 40 →
    (∀ σ', σ' 0 = .sl id 0 len lo ex 1 → σ' 1 = .int .i64 (a : Nat) → σ' 10 = .int .i64 (Sort.scanUp (fun x => ltB x d[a]!) d j i : Nat) → σ' 11 = .int .i64 (j : Nat) → Res (ai (callI tab) s k .nrm σ' H) Q) →
    Res (li (callI tab) L137_1 (.inBlock 0 :: s) k σ H) Q := by
  intro m
  induction m with
  | zero =>
    intro i σ hm h0 h1 h12 h13 hid hd ha hj hp hi hl hs hQ
    have e : Sort.scanUp (fun x => ltB x d[a]!) d j i = i := by rw [Sort.scanUp, if_neg (by simp only [Bool.and_eq_true, decide_eq_true_eq]; omega)]
    rw [e] at hQ
    obtain ⟨il, hil⟩ : ∃ x, x = Jtm.inLoop L137_1 := ⟨_, rfl⟩; rw [li_eq' il hil]
    simp -implicitDefEqProofs (disch := first | omega | with_unfolding_all exact eqR (Eq.refl _)) [nums, -getElem!_pos, -Int.natCast_add, -Int.natCast_mul, -Int.natCast_ediv, L137_1, S137_0, h0, h1, h12, h13, hd, call_135, loadB, storeB, storeB2]
    subst hil
    try simp -implicitDefEqProofs (disch := first | omega | with_unfolding_all exact eqR (Eq.refl _)) [nums, -getElem!_pos, -Int.natCast_add, -Int.natCast_mul, -Int.natCast_ediv]
    refine hQ _ ?_ ?_ ?_ ?_ <;> simp [h0, h1, h12, h13]
  | succ m ih =>
    intro i σ hm h0 h1 h12 h13 hid hd ha hj hp hi hl hs hQ
    by_cases c2 : d[i]! < d[a]!
    · have e : Sort.scanUp (fun x => ltB x d[a]!) d j i = Sort.scanUp (fun x => ltB x d[a]!) d j (i + 1) := by
        rw [Sort.scanUp, if_pos (by simp only [Bool.and_eq_true, decide_eq_true_eq, ltB, c2]; simp; omega)]
      rw [e] at hQ
      obtain ⟨il, hil⟩ : ∃ x, x = Jtm.inLoop L137_1 := ⟨_, rfl⟩; rw [li_eq' il hil]
      simp -implicitDefEqProofs (disch := first | omega | with_unfolding_all exact eqR (Eq.refl _)) [nums, -getElem!_pos, -Int.natCast_add, -Int.natCast_mul, -Int.natCast_ediv, L137_1, S137_0, h0, h1, h12, h13, hd, call_135, loadB, storeB, storeB2]
      subst hil
      try simp -implicitDefEqProofs (disch := first | omega | with_unfolding_all exact eqR (Eq.refl _)) [nums, -getElem!_pos, -Int.natCast_add, -Int.natCast_mul, -Int.natCast_ediv]
      refine ih (i + 1) _ (by omega) ?_ ?_ ?_ ?_ hid hd ha hj (by omega) (by omega) hl hs hQ
      all_goals simp [h0, h1, h12, h13]
    · have e : Sort.scanUp (fun x => ltB x d[a]!) d j i = i := by
        rw [Sort.scanUp, if_neg (by simp only [Bool.and_eq_true, decide_eq_true_eq, ltB, c2]; simp)]
      rw [e] at hQ
      obtain ⟨il, hil⟩ : ∃ x, x = Jtm.inLoop L137_1 := ⟨_, rfl⟩; rw [li_eq' il hil]
      simp -implicitDefEqProofs (disch := first | omega | with_unfolding_all exact eqR (Eq.refl _)) [nums, -getElem!_pos, -Int.natCast_add, -Int.natCast_mul, -Int.natCast_ediv, L137_1, S137_0, h0, h1, h12, h13, hd, call_135, loadB, storeB, storeB2]
      subst hil
      try simp -implicitDefEqProofs (disch := first | omega | with_unfolding_all exact eqR (Eq.refl _)) [nums, -getElem!_pos, -Int.natCast_add, -Int.natCast_mul, -Int.natCast_ediv]
      refine hQ _ ?_ ?_ ?_ ?_ <;> simp [h0, h1, h12, h13]
      
theorem l137_3 (a i : Nat) {H : Heap} {d : Array Int} : ∀ (j : Nat) (σ : Sig), σ 0 = .sl id 0 len lo ex 1 → σ 1 = .int .i64 (a : Nat) → σ 10 = .int .i64 (i : Nat) → σ 11 = .int .i64 (j : Nat) → id < H.next → H.obj id = .cells (tB.arr d) none → a < len → j < len → 1 ≤ i → i < 2 ^ 41 → len ≤ d.size → d.size < 2 ^ 40 →
    (∀ σ', σ' 0 = .sl id 0 len lo ex 1 → σ' 1 = .int .i64 (a : Nat) → σ' 10 = .int .i64 (i : Nat) → σ' 11 = .int .i64 (Sort.scanDown (fun x => !ltB x d[a]!) d i j : Nat) → Res (ai (callI tab) s k .nrm σ' H) Q) →
    Res (li (callI tab) L137_3 (.inBlock 2 :: s) k σ H) Q := by
  intro j
  induction j with
  | zero =>
    intro σ h0 h1 h12 h13 hid hd ha hj hp hi hl hs hQ
    have e : Sort.scanDown (fun x => !ltB x d[a]!) d i 0 = 0 := rfl
    rw [e] at hQ
    obtain ⟨il, hil⟩ : ∃ x, x = Jtm.inLoop L137_3 := ⟨_, rfl⟩; rw [li_eq' il hil]
    simp -implicitDefEqProofs (disch := first | omega | with_unfolding_all exact eqR (Eq.refl _)) [nums, -getElem!_pos, -Int.natCast_add, -Int.natCast_mul, -Int.natCast_ediv, L137_3, S137_2, h0, h1, h12, h13, hd, call_135, loadB, storeB, storeB2]
    subst hil
    try simp -implicitDefEqProofs (disch := first | omega | with_unfolding_all exact eqR (Eq.refl _)) [nums, -getElem!_pos, -Int.natCast_add, -Int.natCast_mul, -Int.natCast_ediv]
    refine hQ _ ?_ ?_ ?_ ?_ <;> simp [h0, h1, h12, h13]
  | succ j ih =>
    intro σ h0 h1 h12 h13 hid hd ha hj hp hi hl hs hQ
    by_cases c1 : i ≤ j + 1
    · by_cases c2 : d[j + 1]! < d[a]!
      · have e : Sort.scanDown (fun x => !ltB x d[a]!) d i (j + 1) = j + 1 := by
          rw [Sort.scanDown, if_neg (by simp only [Bool.and_eq_true, decide_eq_true_eq, ltB, c2]; simp)]
        rw [e] at hQ
        obtain ⟨il, hil⟩ : ∃ x, x = Jtm.inLoop L137_3 := ⟨_, rfl⟩; rw [li_eq' il hil]
        simp -implicitDefEqProofs (disch := first | omega | with_unfolding_all exact eqR (Eq.refl _)) [nums, -getElem!_pos, -Int.natCast_add, -Int.natCast_mul, -Int.natCast_ediv, L137_3, S137_2, h0, h1, h12, h13, hd, call_135, loadB, storeB, storeB2]
        subst hil
        try simp -implicitDefEqProofs (disch := first | omega | with_unfolding_all exact eqR (Eq.refl _)) [nums, -getElem!_pos, -Int.natCast_add, -Int.natCast_mul, -Int.natCast_ediv]
        refine hQ _ ?_ ?_ ?_ ?_ <;> simp [h0, h1, h12, h13]
        
      · have e : Sort.scanDown (fun x => !ltB x d[a]!) d i (j + 1) = Sort.scanDown (fun x => !ltB x d[a]!) d i j := by
          rw [Sort.scanDown, if_pos (by simp only [Bool.and_eq_true, decide_eq_true_eq, ltB, c2]; simp; omega)]
        rw [e] at hQ
        obtain ⟨il, hil⟩ : ∃ x, x = Jtm.inLoop L137_3 := ⟨_, rfl⟩; rw [li_eq' il hil]
        simp -implicitDefEqProofs (disch := first | omega | with_unfolding_all exact eqR (Eq.refl _)) [nums, -getElem!_pos, -Int.natCast_add, -Int.natCast_mul, -Int.natCast_ediv, L137_3, S137_2, h0, h1, h12, h13, hd, call_135, loadB, storeB, storeB2]
        subst hil
        try simp -implicitDefEqProofs (disch := first | omega | with_unfolding_all exact eqR (Eq.refl _)) [nums, -getElem!_pos, -Int.natCast_add, -Int.natCast_mul, -Int.natCast_ediv]
        refine ih _ ?_ ?_ ?_ ?_ hid hd ha (by omega) hp hi hl hs hQ
        all_goals simp [h0, h1, h12, h13]
    · have e : Sort.scanDown (fun x => !ltB x d[a]!) d i (j + 1) = j + 1 := by
        rw [Sort.scanDown, if_neg (by simp only [Bool.and_eq_true, decide_eq_true_eq]; omega)]
      rw [e] at hQ
      obtain ⟨il, hil⟩ : ∃ x, x = Jtm.inLoop L137_3 := ⟨_, rfl⟩; rw [li_eq' il hil]
      simp -implicitDefEqProofs (disch := first | omega | with_unfolding_all exact eqR (Eq.refl _)) [nums, -getElem!_pos, -Int.natCast_add, -Int.natCast_mul, -Int.natCast_ediv, L137_3, S137_2, h0, h1, h12, h13, hd, call_135, loadB, storeB, storeB2]
      subst hil
      try simp -implicitDefEqProofs (disch := first | omega | with_unfolding_all exact eqR (Eq.refl _)) [nums, -getElem!_pos, -Int.natCast_add, -Int.natCast_mul, -Int.natCast_ediv]
      refine hQ _ ?_ ?_ ?_ ?_ <;> simp [h0, h1, h12, h13]
theorem l137_5 (a j : Nat) {H : Heap} {d : Array Int} : ∀ (m i : Nat) (σ : Sig), j + 1 - i = m → σ 0 = .sl id 0 len lo ex 1 → σ 1 = .int .i64 (a : Nat) → σ 10 = .int .i64 (i : Nat) → σ 11 = .int .i64 (j : Nat) → id < H.next → H.obj id = .cells (tB.arr d) none → a < len → j < len → 1 ≤ i → i < 2 ^ 41 → len ≤ d.size → d.size < 2 ^ 40 →
    (∀ σ', σ' 0 = .sl id 0 len lo ex 1 → σ' 1 = .int .i64 (a : Nat) → σ' 10 = .int .i64 (Sort.scanUp (fun x => ltB x d[a]!) d j i : Nat) → σ' 11 = .int .i64 (j : Nat) → Res (ai (callI tab) s k .nrm σ' H) Q) →
    Res (li (callI tab) L137_5 (.inBlock 6 :: s) k σ H) Q := by
  intro m
  induction m with
  | zero =>
    intro i σ hm h0 h1 h12 h13 hid hd ha hj hp hi hl hs hQ
    have e : Sort.scanUp (fun x => ltB x d[a]!) d j i = i := by rw [Sort.scanUp, if_neg (by simp only [Bool.and_eq_true, decide_eq_true_eq]; omega)]
    rw [e] at hQ
    obtain ⟨il, hil⟩ : ∃ x, x = Jtm.inLoop L137_5 := ⟨_, rfl⟩; rw [li_eq' il hil]
    simp -implicitDefEqProofs (disch := first | omega | with_unfolding_all exact eqR (Eq.refl _)) [nums, -getElem!_pos, -Int.natCast_add, -Int.natCast_mul, -Int.natCast_ediv, L137_5, S137_4, h0, h1, h12, h13, hd, call_135, loadB, storeB, storeB2]
    subst hil
    try simp -implicitDefEqProofs (disch := first | omega | with_unfolding_all exact eqR (Eq.refl _)) [nums, -getElem!_pos, -Int.natCast_add, -Int.natCast_mul, -Int.natCast_ediv]
    refine hQ _ ?_ ?_ ?_ ?_ <;> simp [h0, h1, h12, h13]
  | succ m ih =>
    intro i σ hm h0 h1 h12 h13 hid hd ha hj hp hi hl hs hQ
    by_cases c2 : d[i]! < d[a]!
    · have e : Sort.scanUp (fun x => ltB x d[a]!) d j i = Sort.scanUp (fun x => ltB x d[a]!) d j (i + 1) := by
        rw [Sort.scanUp, if_pos (by simp only [Bool.and_eq_true, decide_eq_true_eq, ltB, c2]; simp; omega)]
      rw [e] at hQ
      obtain ⟨il, hil⟩ : ∃ x, x = Jtm.inLoop L137_5 := ⟨_, rfl⟩; rw [li_eq' il hil]
      simp -implicitDefEqProofs (disch := first | omega | with_unfolding_all exact eqR (Eq.refl _)) [nums, -getElem!_pos, -Int.natCast_add, -Int.natCast_mul, -Int.natCast_ediv, L137_5, S137_4, h0, h1, h12, h13, hd, call_135, loadB, storeB, storeB2]
      subst hil
      try simp -implicitDefEqProofs (disch := first | omega | with_unfolding_all exact eqR (Eq.refl _)) [nums, -getElem!_pos, -Int.natCast_add, -Int.natCast_mul, -Int.natCast_ediv]
      refine ih (i + 1) _ (by omega) ?_ ?_ ?_ ?_ hid hd ha hj (by omega) (by omega) hl hs hQ
      all_goals simp [h0, h1, h12, h13]
    · have e : Sort.scanUp (fun x => ltB x d[a]!) d j i = i := by
        rw [Sort.scanUp, if_neg (by simp only [Bool.and_eq_true, decide_eq_true_eq, ltB, c2]; simp)]
      rw [e] at hQ
      obtain ⟨il, hil⟩ : ∃ x, x = Jtm.inLoop L137_5 := ⟨_, rfl⟩; rw [li_eq' il hil]
      simp -implicitDefEqProofs (disch := first | omega | with_unfolding_all exact eqR (Eq.refl _)) [nums, -getElem!_pos, -Int.natCast_add, -Int.natCast_mul, -Int.natCast_ediv, L137_5, S137_4, h0, h1, h12, h13, hd, call_135, loadB, storeB, storeB2]
      subst hil
      try simp -implicitDefEqProofs (disch := first | omega | with_unfolding_all exact eqR (Eq.refl _)) [nums, -getElem!_pos, -Int.natCast_add, -Int.natCast_mul, -Int.natCast_ediv]
      refine hQ _ ?_ ?_ ?_ ?_ <;> simp [h0, h1, h12, h13]
      
theorem l137_7 (a i : Nat) {H : Heap} {d : Array Int} : ∀ (j : Nat) (σ : Sig), σ 0 = .sl id 0 len lo ex 1 → σ 1 = .int .i64 (a : Nat) → σ 10 = .int .i64 (i : Nat) → σ 11 = .int .i64 (j : Nat) → id < H.next → H.obj id = .cells (tB.arr d) none → a < len → j < len → 1 ≤ i → i < 2 ^ 41 → len ≤ d.size → d.size < 2 ^ 40 →
    (∀ σ', σ' 0 = .sl id 0 len lo ex 1 → σ' 1 = .int .i64 (a : Nat) → σ' 10 = .int .i64 (i : Nat) → σ' 11 = .int .i64 (Sort.scanDown (fun x => !ltB x d[a]!) d i j : Nat) → Res (ai (callI tab) s k .nrm σ' H) Q) →
    Res (li (callI tab) L137_7 (.inBlock 8 :: s) k σ H) Q := by
  intro j
  induction j with
  | zero =>
    intro σ h0 h1 h12 h13 hid hd ha hj hp hi hl hs hQ
    have e : Sort.scanDown (fun x => !ltB x d[a]!) d i 0 = 0 := rfl
    rw [e] at hQ
    obtain ⟨il, hil⟩ : ∃ x, x = Jtm.inLoop L137_7 := ⟨_, rfl⟩; rw [li_eq' il hil]
    simp -implicitDefEqProofs (disch := first | omega | with_unfolding_all exact eqR (Eq.refl _)) [nums, -getElem!_pos, -Int.natCast_add, -Int.natCast_mul, -Int.natCast_ediv, L137_7, S137_6, h0, h1, h12, h13, hd, call_135, loadB, storeB, storeB2]
    subst hil
    try simp -implicitDefEqProofs (disch := first | omega | with_unfolding_all exact eqR (Eq.refl _)) [nums, -getElem!_pos, -Int.natCast_add, -Int.natCast_mul, -Int.natCast_ediv]
    refine hQ _ ?_ ?_ ?_ ?_ <;> simp [h0, h1, h12, h13]
  | succ j ih =>
    intro σ h0 h1 h12 h13 hid hd ha hj hp hi hl hs hQ
    by_cases c1 : i ≤ j + 1
    · by_cases c2 : d[j + 1]! < d[a]!
      · have e : Sort.scanDown (fun x => !ltB x d[a]!) d i (j + 1) = j + 1 := by
          rw [Sort.scanDown, if_neg (by simp only [Bool.and_eq_true, decide_eq_true_eq, ltB, c2]; simp)]
        rw [e] at hQ
        obtain ⟨il, hil⟩ : ∃ x, x = Jtm.inLoop L137_7 := ⟨_, rfl⟩; rw [li_eq' il hil]
        simp -implicitDefEqProofs (disch := first | omega | with_unfolding_all exact eqR (Eq.refl _)) [nums, -getElem!_pos, -Int.natCast_add, -Int.natCast_mul, -Int.natCast_ediv, L137_7, S137_6, h0, h1, h12, h13, hd, call_135, loadB, storeB, storeB2]
        subst hil
        try simp -implicitDefEqProofs (disch := first | omega | with_unfolding_all exact eqR (Eq.refl _)) [nums, -getElem!_pos, -Int.natCast_add, -Int.natCast_mul, -Int.natCast_ediv]
        refine hQ _ ?_ ?_ ?_ ?_ <;> simp [h0, h1, h12, h13]
        
      · have e : Sort.scanDown (fun x => !ltB x d[a]!) d i (j + 1) = Sort.scanDown (fun x => !ltB x d[a]!) d i j := by
          rw [Sort.scanDown, if_pos (by simp only [Bool.and_eq_true, decide_eq_true_eq, ltB, c2]; simp; omega)]
        rw [e] at hQ
        obtain ⟨il, hil⟩ : ∃ x, x = Jtm.inLoop L137_7 := ⟨_, rfl⟩; rw [li_eq' il hil]
        simp -implicitDefEqProofs (disch := first | omega | with_unfolding_all exact eqR (Eq.refl _)) [nums, -getElem!_pos, -Int.natCast_add, -Int.natCast_mul, -Int.natCast_ediv, L137_7, S137_6, h0, h1, h12, h13, hd, call_135, loadB, storeB, storeB2]
        subst hil
        try simp -implicitDefEqProofs (disch := first | omega | with_unfolding_all exact eqR (Eq.refl _)) [nums, -getElem!_pos, -Int.natCast_add, -Int.natCast_mul, -Int.natCast_ediv]
        refine ih _ ?_ ?_ ?_ ?_ hid hd ha (by omega) hp hi hl hs hQ
        all_goals simp [h0, h1, h12, h13]
    · have e : Sort.scanDown (fun x => !ltB x d[a]!) d i (j + 1) = j + 1 := by
        rw [Sort.scanDown, if_neg (by simp only [Bool.and_eq_true, decide_eq_true_eq]; omega)]
      rw [e] at hQ
      obtain ⟨il, hil⟩ : ∃ x, x = Jtm.inLoop L137_7 := ⟨_, rfl⟩; rw [li_eq' il hil]
      simp -implicitDefEqProofs (disch := first | omega | with_unfolding_all exact eqR (Eq.refl _)) [nums, -getElem!_pos, -Int.natCast_add, -Int.natCast_mul, -Int.natCast_ediv, L137_7, S137_6, h0, h1, h12, h13, hd, call_135, loadB, storeB, storeB2]
      subst hil
      try simp -implicitDefEqProofs (disch := first | omega | with_unfolding_all exact eqR (Eq.refl _)) [nums, -getElem!_pos, -Int.natCast_add, -Int.natCast_mul, -Int.natCast_ediv]
      refine hQ _ ?_ ?_ ?_ ?_ <;> simp [h0, h1, h12, h13]
theorem l136_7 (a : Nat) : ∀ (m i j : Nat) (σ : Sig) (H : Heap) (d : Array Int), j + 1 - i ≤ m → σ 0 = .sl id 0 len lo ex 1 → σ 1 = .int .i64 (a : Nat) → σ 9 = .int .i64 (i : Nat) → σ 10 = .int .i64 (j : Nat) →
    id < H.next → H.obj id = .cells (tB.arr d) none → a < len → j < len → 1 ≤ i → i < 2 ^ 41 → len ≤ d.size → d.size < 2 ^ 40 →
    (∀ σ' H', σ' 0 = .sl id 0 len lo ex 1 → σ' 1 = .int .i64 (a : Nat) → σ' 9 = .int .i64 ((Sort.partEqLoop ltB a i j d).1 : Nat) → Wr H H' id (.cells (tB.arr (Sort.partEqLoop ltB a i j d).2) none) → Res (ai (callI tab) s k .nrm σ' H') Q) →
    Res (li (callI tab) L136_7 (.inBlock 0 :: s) k σ H) Q := by
  intro m
  induction m with
  | zero =>
    intro i j σ H d hm h0 h1 h11 h12 hid hd ha hj hp hi hl hs hQ
    have u1 := Sort.scanUp_ge (fun x => !ltB d[a]! x) d j i
    have u2 := Sort.scanDown_le (fun x => ltB d[a]! x) d (Sort.scanUp (fun x => !ltB d[a]! x) d j i) j
    have u3 : Sort.scanUp (fun x => !ltB d[a]! x) d j i < 2 ^ 41 := scanUp_bd _ _ hi (by omega)
    have e := Sort.partEqLoop_eq ltB a i j d
    rw [if_pos (by omega)] at e
    rw [e] at hQ
    obtain ⟨il, hil⟩ : ∃ x, x = Jtm.inLoop L136_7 := ⟨_, rfl⟩; rw [li_eq' il hil]
    simp -implicitDefEqProofs (disch := first | omega | with_unfolding_all exact eqR (Eq.refl _)) [nums, -getElem!_pos, -Int.natCast_add, -Int.natCast_mul, -Int.natCast_ediv, L136_7]
    refine l136_1 (len := len) (lo := lo) (ex := ex) a j _ i σ rfl h0 h1 h11 h12 hid hd ha hj hp hi hl hs fun σ1 q0 q1 qi qj => ?_
    simp -implicitDefEqProofs (disch := first | omega | with_unfolding_all exact eqR (Eq.refl _)) [nums, -getElem!_pos, -Int.natCast_add, -Int.natCast_mul, -Int.natCast_ediv, S136_6]
    refine l136_3 (len := len) (lo := lo) (ex := ex) a _ j σ1 q0 q1 qi qj hid hd ha hj (by omega) u3 hl hs fun σ2 r0 r1 ri rj => ?_
    simp -implicitDefEqProofs (disch := first | omega | with_unfolding_all exact eqR (Eq.refl _)) [nums, -getElem!_pos, -Int.natCast_add, -Int.natCast_mul, -Int.natCast_ediv, S136_5, r0, r1, ri, rj]
    subst hil
    try simp -implicitDefEqProofs (disch := first | omega | with_unfolding_all exact eqR (Eq.refl _)) [nums, -getElem!_pos, -Int.natCast_add, -Int.natCast_mul, -Int.natCast_ediv]
    refine hQ _ _ ?_ ?_ ?_ (.refl hid hd)
    all_goals simp [r0, r1, ri, rj]
  | succ m ih =>
    intro i j σ H d hm h0 h1 h11 h12 hid hd ha hj hp hi hl hs hQ
    have u1 := Sort.scanUp_ge (fun x => !ltB d[a]! x) d j i
    have u2 := Sort.scanDown_le (fun x => ltB d[a]! x) d (Sort.scanUp (fun x => !ltB d[a]! x) d j i) j
    have u3 : Sort.scanUp (fun x => !ltB d[a]! x) d j i < 2 ^ 41 := scanUp_bd _ _ hi (by omega)
    have e := Sort.partEqLoop_eq ltB a i j d
    rw [e] at hQ
    obtain ⟨il, hil⟩ : ∃ x, x = Jtm.inLoop L136_7 := ⟨_, rfl⟩; rw [li_eq' il hil]
    simp -implicitDefEqProofs (disch := first | omega | with_unfolding_all exact eqR (Eq.refl _)) [nums, -getElem!_pos, -Int.natCast_add, -Int.natCast_mul, -Int.natCast_ediv, L136_7]
    refine l136_1 (len := len) (lo := lo) (ex := ex) a j _ i σ rfl h0 h1 h11 h12 hid hd ha hj hp hi hl hs fun σ1 q0 q1 qi qj => ?_
    simp -implicitDefEqProofs (disch := first | omega | with_unfolding_all exact eqR (Eq.refl _)) [nums, -getElem!_pos, -Int.natCast_add, -Int.natCast_mul, -Int.natCast_ediv, S136_6]
    refine l136_3 (len := len) (lo := lo) (ex := ex) a _ j σ1 q0 q1 qi qj hid hd ha hj (by omega) u3 hl hs fun σ2 r0 r1 ri rj => ?_
    clear e qi qj
    generalize hi2 : Sort.scanUp (fun x => !ltB d[a]! x) d j i = i2 at *
    generalize hj2 : Sort.scanDown (fun x => ltB d[a]! x) d i2 j = j2 at *
    by_cases c1 : i2 > j2
    · rw [if_pos c1] at hQ
      simp -implicitDefEqProofs (disch := first | omega | with_unfolding_all exact eqR (Eq.refl _)) [nums, -getElem!_pos, -Int.natCast_add, -Int.natCast_mul, -Int.natCast_ediv, S136_5, r0, r1, ri, rj]
      subst hil
      try simp -implicitDefEqProofs (disch := first | omega | with_unfolding_all exact eqR (Eq.refl _)) [nums, -getElem!_pos, -Int.natCast_add, -Int.natCast_mul, -Int.natCast_ediv]
      refine hQ _ _ ?_ ?_ ?_ (.refl hid hd)
      all_goals simp [r0, r1, ri, rj]
    · rw [if_neg c1] at hQ
      simp -implicitDefEqProofs (disch := first | omega | with_unfolding_all exact eqR (Eq.refl _)) [nums, -getElem!_pos, -Int.natCast_add, -Int.natCast_mul, -Int.natCast_ediv, S136_5, S136_4, r0, r1, ri, rj, hd, loadB, storeB, storeB2]
      subst hil
      try simp -implicitDefEqProofs (disch := first | omega | with_unfolding_all exact eqR (Eq.refl _)) [nums, -getElem!_pos, -Int.natCast_add, -Int.natCast_mul, -Int.natCast_ediv]
      refine ih (i2 + 1) (j2 - 1) _ _ (Sort.swp d i2 j2) (by omega) ?_ ?_ ?_ ?_ (by exact hid) ?_ ha (by omega) (by omega) (by omega) (by rw [swp_size]; exact hl) (by rw [swp_size]; exact hs) fun σ' H' q0 q1 qr hw => hQ σ' H' q0 q1 qr (.trans (.trans (.set hid) (.set hid)) hw)
      all_goals simp [r0, r1, ri, rj, Sort.swp]
theorem l137_11 (a : Nat) : ∀ (m i j : Nat) (σ : Sig) (H : Heap) (d : Array Int), j + 1 - i ≤ m → σ 0 = .sl id 0 len lo ex 1 → σ 1 = .int .i64 (a : Nat) → σ 10 = .int .i64 (i : Nat) → σ 11 = .int .i64 (j : Nat) →
    id < H.next → H.obj id = .cells (tB.arr d) none → a < len → j < len → 1 ≤ i → i < 2 ^ 41 → len ≤ d.size → d.size < 2 ^ 40 →
    (∀ σ' H', σ' 0 = .sl id 0 len lo ex 1 → σ' 1 = .int .i64 (a : Nat) → σ' 11 = .int .i64 ((Sort.partLoop ltB a i j d).1 : Nat) → Wr H H' id (.cells (tB.arr (Sort.partLoop ltB a i j d).2) none) → Res (ai (callI tab) s k .nrm σ' H') Q) →
    Res (li (callI tab) L137_11 (.inBlock 4 :: s) k σ H) Q := by
  intro m
  induction m with
  | zero =>
    intro i j σ H d hm h0 h1 h12 h13 hid hd ha hj hp hi hl hs hQ
    have u1 := Sort.scanUp_ge (fun x => ltB x d[a]!) d j i
    have u2 := Sort.scanDown_le (fun x => !ltB x d[a]!) d (Sort.scanUp (fun x => ltB x d[a]!) d j i) j
    have u3 : Sort.scanUp (fun x => ltB x d[a]!) d j i < 2 ^ 41 := scanUp_bd _ _ hi (by omega)
    have e := Sort.partLoop_eq ltB a i j d
    rw [if_pos (by omega)] at e
    rw [e] at hQ
    obtain ⟨il, hil⟩ : ∃ x, x = Jtm.inLoop L137_11 := ⟨_, rfl⟩; rw [li_eq' il hil]
    simp -implicitDefEqProofs (disch := first | omega | with_unfolding_all exact eqR (Eq.refl _)) [nums, -getElem!_pos, -Int.natCast_add, -Int.natCast_mul, -Int.natCast_ediv, L137_11]
    refine l137_5 (len := len) (lo := lo) (ex := ex) a j _ i σ rfl h0 h1 h12 h13 hid hd ha hj hp hi hl hs fun σ1 q0 q1 qi qj => ?_
    simp -implicitDefEqProofs (disch := first | omega | with_unfolding_all exact eqR (Eq.refl _)) [nums, -getElem!_pos, -Int.natCast_add, -Int.natCast_mul, -Int.natCast_ediv, S137_10]
    refine l137_7 (len := len) (lo := lo) (ex := ex) a _ j σ1 q0 q1 qi qj hid hd ha hj (by omega) u3 hl hs fun σ2 r0 r1 ri rj => ?_
    simp -implicitDefEqProofs (disch := first | omega | with_unfolding_all exact eqR (Eq.refl _)) [nums, -getElem!_pos, -Int.natCast_add, -Int.natCast_mul, -Int.natCast_ediv, S137_9, r0, r1, ri, rj]
    subst hil
    try simp -implicitDefEqProofs (disch := first | omega | with_unfolding_all exact eqR (Eq.refl _)) [nums, -getElem!_pos, -Int.natCast_add, -Int.natCast_mul, -Int.natCast_ediv]
    refine hQ _ _ ?_ ?_ ?_ (.refl hid hd)
    all_goals simp [r0, r1, ri, rj]
  | succ m ih =>
    intro i j σ H d hm h0 h1 h12 h13 hid hd ha hj hp hi hl hs hQ
    have u1 := Sort.scanUp_ge (fun x => ltB x d[a]!) d j i
    have u2 := Sort.scanDown_le (fun x => !ltB x d[a]!) d (Sort.scanUp (fun x => ltB x d[a]!) d j i) j
    have u3 : Sort.scanUp (fun x => ltB x d[a]!) d j i < 2 ^ 41 := scanUp_bd _ _ hi (by omega)
    have e := Sort.partLoop_eq ltB a i j d
    rw [e] at hQ
    obtain ⟨il, hil⟩ : ∃ x, x = Jtm.inLoop L137_11 := ⟨_, rfl⟩; rw [li_eq' il hil]
    simp -implicitDefEqProofs (disch := first | omega | with_unfolding_all exact eqR (Eq.refl _)) [nums, -getElem!_pos, -Int.natCast_add, -Int.natCast_mul, -Int.natCast_ediv, L137_11]
    refine l137_5 (len := len) (lo := lo) (ex := ex) a j _ i σ rfl h0 h1 h12 h13 hid hd ha hj hp hi hl hs fun σ1 q0 q1 qi qj => ?_
    simp -implicitDefEqProofs (disch := first | omega | with_unfolding_all exact eqR (Eq.refl _)) [nums, -getElem!_pos, -Int.natCast_add, -Int.natCast_mul, -Int.natCast_ediv, S137_10]
    refine l137_7 (len := len) (lo := lo) (ex := ex) a _ j σ1 q0 q1 qi qj hid hd ha hj (by omega) u3 hl hs fun σ2 r0 r1 ri rj => ?_
    clear e qi qj
    generalize hi2 : Sort.scanUp (fun x => ltB x d[a]!) d j i = i2 at *
    generalize hj2 : Sort.scanDown (fun x => !ltB x d[a]!) d i2 j = j2 at *
    by_cases c1 : i2 > j2
    · rw [if_pos c1] at hQ
      simp -implicitDefEqProofs (disch := first | omega | with_unfolding_all exact eqR (Eq.refl _)) [nums, -getElem!_pos, -Int.natCast_add, -Int.natCast_mul, -Int.natCast_ediv, S137_9, r0, r1, ri, rj]
      subst hil
      try simp -implicitDefEqProofs (disch := first | omega | with_unfolding_all exact eqR (Eq.refl _)) [nums, -getElem!_pos, -Int.natCast_add, -Int.natCast_mul, -Int.natCast_ediv]
      refine hQ _ _ ?_ ?_ ?_ (.refl hid hd)
      all_goals simp [r0, r1, ri, rj]
    · rw [if_neg c1] at hQ
      simp -implicitDefEqProofs (disch := first | omega | with_unfolding_all exact eqR (Eq.refl _)) [nums, -getElem!_pos, -Int.natCast_add, -Int.natCast_mul, -Int.natCast_ediv, S137_9, S137_8, r0, r1, ri, rj, hd, loadB, storeB, storeB2]
      subst hil
      try simp -implicitDefEqProofs (disch := first | omega | with_unfolding_all exact eqR (Eq.refl _)) [nums, -getElem!_pos, -Int.natCast_add, -Int.natCast_mul, -Int.natCast_ediv]
      refine ih (i2 + 1) (j2 - 1) _ _ (Sort.swp d i2 j2) (by omega) ?_ ?_ ?_ ?_ (by exact hid) ?_ ha (by omega) (by omega) (by omega) (by rw [swp_size]; exact hl) (by rw [swp_size]; exact hs) fun σ' H' q0 q1 qr hw => hQ σ' H' q0 q1 qr (.trans (.trans (.set hid) (.set hid)) hw)
      all_goals simp [r0, r1, ri, rj, Sort.swp]
theorem call_136 {a b p : Nat} {H : Heap} {d : Array Int} (hid : id < H.next) (hd : H.obj id = (.cells (tB.arr d) none)) (hb : b ≤ len) (ha : a < b) (hp : p < b) (hl : len ≤ d.size) (hs : d.size < 2 ^ 40) :
    Res (callI tab 99 [.sl id 0 len lo ex 1, .int .i64 a, .int .i64 b, .int .i64 p] H) fun v H' => v = .int .i64 ((Sort.partitionEqual ltB d a b p).1 : Nat) ∧ Wr H H' id (.cells (tB.arr (Sort.partitionEqual ltB d a b p).2) none) := by
  refine .hide fun Q hQ => .enter tab_136 (by simp [AF136]) (.inl rfl) ?_
  have hid' : id < H.begin.next := hid
  simp -implicitDefEqProofs (disch := first | omega | with_unfolding_all exact eqR (Eq.refl _)) [nums, -getElem!_pos, -Int.natCast_add, -Int.natCast_mul, -Int.natCast_ediv, AF136, hd, loadB, storeB, storeB2]
  refine l136_7 (len := len) (lo := lo) (ex := ex) a _ (a + 1) (b - 1) _ _ (Sort.swp d a p) (Nat.le_refl _) ?_ ?_ ?_ ?_ (by exact hid) ?_ (by omega) (by omega) (by omega) (by omega) (by rw [swp_size]; exact hl) (by rw [swp_size]; exact hs) fun σ' H' q0 q1 qr hw => ?_
  any_goals (first | (simp [Sort.swp]; done) | skip)
  simp -implicitDefEqProofs (disch := first | omega | with_unfolding_all exact eqR (Eq.refl _)) [nums, -getElem!_pos, -Int.natCast_add, -Int.natCast_mul, -Int.natCast_ediv, S136_8, qr]
  obtain ⟨H2, e, w⟩ := (Wr.trans (.trans (.set hid') (.set hid')) hw).toFx.wrapA (H := H) (v := .int .i64 _) rfl
  rw [e]
  exact .mk (hQ _ _ ⟨rfl, w⟩)
theorem call_137 {a b p : Nat} {H : Heap} {d : Array Int} (hid : id < H.next) (hd : H.obj id = (.cells (tB.arr d) none)) (hb : b ≤ len) (ha : a < b) (hp : p < b) (hl : len ≤ d.size) (hs : d.size < 2 ^ 40) :
    Res (callI tab 100 [.sl id 0 len lo ex 1, .int .i64 a, .int .i64 b, .int .i64 p] H) fun v H' => v = .tup [.int .i64 ((Sort.partition ltB d a b p).1 : Nat), .bool (Sort.partition ltB d a b p).2.1] ∧ Wr H H' id (.cells (tB.arr (Sort.partition ltB d a b p).2.2) none) := by
  refine .hide fun Q hQ => .enter tab_137 (by simp [AF137]) (.inl rfl) ?_
  have hid' : id < H.begin.next := hid
  have u1 := Sort.scanUp_ge (fun x => ltB x (Sort.swp d a p)[a]!) (Sort.swp d a p) (b - 1) (a + 1)
  have u2 := Sort.scanDown_le (fun x => !ltB x (Sort.swp d a p)[a]!) (Sort.swp d a p) (Sort.scanUp (fun x => ltB x (Sort.swp d a p)[a]!) (Sort.swp d a p) (b - 1) (a + 1)) (b - 1)
  have u3 : Sort.scanUp (fun x => ltB x (Sort.swp d a p)[a]!) (Sort.swp d a p) (b - 1) (a + 1) < 2 ^ 41 := scanUp_bd _ _ (by omega) (by omega)
  have e : Sort.partition ltB d a b p = if Sort.scanUp (fun x => ltB x (Sort.swp d a p)[a]!) (Sort.swp d a p) (b - 1) (a + 1) > Sort.scanDown (fun x => !ltB x (Sort.swp d a p)[a]!) (Sort.swp d a p) (Sort.scanUp (fun x => ltB x (Sort.swp d a p)[a]!) (Sort.swp d a p) (b - 1) (a + 1)) (b - 1) then (Sort.scanDown (fun x => !ltB x (Sort.swp d a p)[a]!) (Sort.swp d a p) (Sort.scanUp (fun x => ltB x (Sort.swp d a p)[a]!) (Sort.swp d a p) (b - 1) (a + 1)) (b - 1), true, Sort.swp (Sort.swp d a p) (Sort.scanDown (fun x => !ltB x (Sort.swp d a p)[a]!) (Sort.swp d a p) (Sort.scanUp (fun x => ltB x (Sort.swp d a p)[a]!) (Sort.swp d a p) (b - 1) (a + 1)) (b - 1)) a) else
    ((Sort.partLoop ltB a (Sort.scanUp (fun x => ltB x (Sort.swp d a p)[a]!) (Sort.swp d a p) (b - 1) (a + 1) + 1) (Sort.scanDown (fun x => !ltB x (Sort.swp d a p)[a]!) (Sort.swp d a p) (Sort.scanUp (fun x => ltB x (Sort.swp d a p)[a]!) (Sort.swp d a p) (b - 1) (a + 1)) (b - 1) - 1) (Sort.swp (Sort.swp d a p) (Sort.scanUp (fun x => ltB x (Sort.swp d a p)[a]!) (Sort.swp d a p) (b - 1) (a + 1)) (Sort.scanDown (fun x => !ltB x (Sort.swp d a p)[a]!) (Sort.swp d a p) (Sort.scanUp (fun x => ltB x (Sort.swp d a p)[a]!) (Sort.swp d a p) (b - 1) (a + 1)) (b - 1)))).1, false,
      Sort.swp (Sort.partLoop ltB a (Sort.scanUp (fun x => ltB x (Sort.swp d a p)[a]!) (Sort.swp d a p) (b - 1) (a + 1) + 1) (Sort.scanDown (fun x => !ltB x (Sort.swp d a p)[a]!) (Sort.swp d a p) (Sort.scanUp (fun x => ltB x (Sort.swp d a p)[a]!) (Sort.swp d a p) (b - 1) (a + 1)) (b - 1) - 1) (Sort.swp (Sort.swp d a p) (Sort.scanUp (fun x => ltB x (Sort.swp d a p)[a]!) (Sort.swp d a p) (b - 1) (a + 1)) (Sort.scanDown (fun x => !ltB x (Sort.swp d a p)[a]!) (Sort.swp d a p) (Sort.scanUp (fun x => ltB x (Sort.swp d a p)[a]!) (Sort.swp d a p) (b - 1) (a + 1)) (b - 1)))).2 (Sort.partLoop ltB a (Sort.scanUp (fun x => ltB x (Sort.swp d a p)[a]!) (Sort.swp d a p) (b - 1) (a + 1) + 1) (Sort.scanDown (fun x => !ltB x (Sort.swp d a p)[a]!) (Sort.swp d a p) (Sort.scanUp (fun x => ltB x (Sort.swp d a p)[a]!) (Sort.swp d a p) (b - 1) (a + 1)) (b - 1) - 1) (Sort.swp (Sort.swp d a p) (Sort.scanUp (fun x => ltB x (Sort.swp d a p)[a]!) (Sort.swp d a p) (b - 1) (a + 1)) (Sort.scanDown (fun x => !ltB x (Sort.swp d a p)[a]!) (Sort.swp d a p) (Sort.scanUp (fun x => ltB x (Sort.swp d a p)[a]!) (Sort.swp d a p) (b - 1) (a + 1)) (b - 1)))).1 a) := rfl
  rw [e] at hQ
  clear e
  simp -implicitDefEqProofs (disch := first | omega | with_unfolding_all exact eqR (Eq.refl _)) [nums, -getElem!_pos, -Int.natCast_add, -Int.natCast_mul, -Int.natCast_ediv, AF137, hd, loadB, storeB, storeB2]
  refine l137_1 (len := len) (lo := lo) (ex := ex) a (b - 1) (d := (Sort.swp d a p)) _ (a + 1) _ rfl ?_ ?_ ?_ ?_ (by exact hid) ?_ (by omega) (by omega) (by omega) (by omega) (by rw [swp_size]; exact hl) (by rw [swp_size]; exact hs) fun σ1 q0 q1 qi qj => ?_
  any_goals (first | (simp [Sort.swp]; done) | skip)
  simp -implicitDefEqProofs (disch := first | omega | with_unfolding_all exact eqR (Eq.refl _)) [nums, -getElem!_pos, -Int.natCast_add, -Int.natCast_mul, -Int.natCast_ediv, S137_15]
  refine l137_3 (len := len) (lo := lo) (ex := ex) a _ (d := (Sort.swp d a p)) (b - 1) σ1 q0 q1 qi qj (by exact hid) (by simp [Sort.swp]) (by omega) (by omega) (by omega) u3 (by rw [swp_size]; exact hl) (by rw [swp_size]; exact hs) fun σ2 r0 r1 ri rj => ?_
  clear qi qj
  generalize hi2 : Sort.scanUp (fun x => ltB x (Sort.swp d a p)[a]!) (Sort.swp d a p) (b - 1) (a + 1) = i2 at *
  generalize hj2 : Sort.scanDown (fun x => !ltB x (Sort.swp d a p)[a]!) (Sort.swp d a p) i2 (b - 1) = j2 at *
  have sz : (Sort.swp d a p).size = d.size := swp_size _ _ _
  generalize hd1 : (Sort.swp d a p) = d1 at *
  have hd1' : ((H.begin.set id (AObj.cells (tB.arr (d.setIfInBounds a d[p]!)) none)).set id (AObj.cells (tB.arr ((d.setIfInBounds a d[p]!).setIfInBounds p d[a]!)) none)).obj id = .cells (tB.arr d1) none := by rw [← hd1]; simp [Sort.swp]
  have w1 : Wr H.begin ((H.begin.set id (AObj.cells (tB.arr (d.setIfInBounds a d[p]!)) none)).set id (AObj.cells (tB.arr ((d.setIfInBounds a d[p]!).setIfInBounds p d[a]!)) none)) id (.cells (tB.arr d1) none) := by rw [← hd1]; exact .trans (.set hid') (.set hid')
  generalize hH1 : (H.begin.set id (AObj.cells (tB.arr (d.setIfInBounds a d[p]!)) none)).set id (AObj.cells (tB.arr ((d.setIfInBounds a d[p]!).setIfInBounds p d[a]!)) none) = H1 at *
  have hid1 : id < H1.next := by rw [w1.nxt]; exact hid
  by_cases c1 : i2 > j2
  · rw [if_pos c1] at hQ
    simp -implicitDefEqProofs (disch := first | omega | with_unfolding_all exact eqR (Eq.refl _)) [nums, -getElem!_pos, -Int.natCast_add, -Int.natCast_mul, -Int.natCast_ediv, S137_14, r0, r1, ri, rj, hd1', loadB, storeB, storeB2]
    obtain ⟨H2, e, w⟩ := (w1.trans (Wr.trans (o2 := .cells (tB.arr (Sort.swp d1 j2 a)) none) (.set hid1) (.set hid1))).toFx.wrapA (H := H) (v := .tup [.int .i64 j2, .bool true]) rfl
    simp only [Sort.swp] at e
    rw [e]
    exact .mk (hQ _ _ ⟨rfl, w⟩)
  · rw [if_neg c1] at hQ
    simp -implicitDefEqProofs (disch := first | omega | with_unfolding_all exact eqR (Eq.refl _)) [nums, -getElem!_pos, -Int.natCast_add, -Int.natCast_mul, -Int.natCast_ediv, S137_14, S137_13, r0, r1, ri, rj, hd1', loadB, storeB, storeB2]
    have pz := partLoop_size ltB a _ (i2 + 1) (j2 - 1) (Sort.swp d1 i2 j2) (Nat.le_refl _)
    rw [swp_size] at pz
    refine l137_11 (len := len) (lo := lo) (ex := ex) a _ (i2 + 1) (j2 - 1) _ _ (Sort.swp d1 i2 j2) (Nat.le_refl _) ?_ ?_ ?_ ?_ (by exact hid1) ?_ (by omega) (by omega) (by omega) (by omega) (by rw [swp_size]; omega) (by rw [swp_size]; omega) fun σ3 H3 t0 t1 tr hw => ?_
    any_goals (first | (simp [r0, r1, ri, rj, Sort.swp]; done) | skip)
    generalize hR : Sort.partLoop ltB a (i2 + 1) (j2 - 1) (Sort.swp d1 i2 j2) = R at *
    have hd3 := hw.at
    have hid3 : id < H3.next := by rw [hw.nxt]; exact hid1
    have w3 : Wr H.begin H3 id (.cells (tB.arr R.2) none) := w1.trans (.trans (.trans (.set hid1) (.set hid1)) hw)
    simp -implicitDefEqProofs (disch := first | omega | with_unfolding_all exact eqR (Eq.refl _)) [nums, -getElem!_pos, -Int.natCast_add, -Int.natCast_mul, -Int.natCast_ediv, S137_12, t0, t1, tr, hd3, loadB, storeB, storeB2]
    obtain ⟨H2, e, w⟩ := (w3.trans (Wr.trans (o2 := .cells (tB.arr (Sort.swp R.2 R.1 a)) none) (.set hid3) (.set hid3))).toFx.wrapA (H := H) (v := .tup [.int .i64 R.1, .bool false]) rfl
    simp only [Sort.swp] at e
    rw [e]
    exact .mk (hQ _ _ ⟨rfl, w⟩)
end
end Go.Mach.Ytl
set_option linter.unusedSimpArgs false
set_option linter.unusedVariables false
set_option maxRecDepth 100000
namespace Go.Mach.Ytl
open Go.Mach
section
variable {g id len lo : Nat} {ex : Bool} {c : Mo → Mo → Int} {s : List Jtm} {k : KF} {Q : AV → Heap → Prop}
theorem shiftDown_size {α : Type} [Inhabited α] (lt : α → α → Bool) (j : Nat) : ∀ (d : Array α), (Sort.shiftDown lt j d).size = d.size := by
  induction j with
  | zero => intro d; rfl
  | succ j ih => intro d; rw [Sort.shiftDown]; split <;> simp [ih, Sort.swp]
theorem shiftUp_size {α : Type} [Inhabited α] (lt : α → α → Bool) (b m : Nat) : ∀ j (d : Array α), b - j ≤ m → (Sort.shiftUp lt b j d).size = d.size := by
  induction m with
  | zero => intro j d h; rw [Sort.shiftUp, if_neg (by omega)]
  | succ m ih =>
    intro j d h
    rw [Sort.shiftUp]
    split
    · split
      · rfl
      · rw [ih _ _ (by omega), swp_size]
    · rfl
theorem scanSorted_bd {α : Type} [Inhabited α] (lt : α → α → Bool) (d : Array α) (b m : Nat) : ∀ i, b - i ≤ m → i ≤ b → i ≤ Sort.scanSorted lt d b i ∧ Sort.scanSorted lt d b i ≤ b := by
  induction m with
  | zero => intro i h hb; rw [Sort.scanSorted, if_neg (by simp only [Bool.and_eq_true, decide_eq_true_eq]; omega)]; omega
  | succ m ih =>
    intro i h hb
    rw [Sort.scanSorted]
    split
    · rename_i hc
      simp only [Bool.and_eq_true, decide_eq_true_eq] at hc
      have := ih (i + 1) (by omega) (by omega)
      omega
    · omega
theorem l114_1 (hc : CmpM g c) {a b q : Nat} {H : Heap} {d : Array Mo} : ∀ (m i : Nat) (σ : Sig), b - i = m → σ 0 = .sl id 0 len lo ex 8 → σ 1 = .int .i64 (a : Nat) → σ 2 = .int .i64 (b : Nat) → σ 3 = .fn g [] [] → σ 9 = .int .i64 (i : Nat) → σ 10 = .int .i64 (q : Nat) →
    id < H.next → H.obj id = .cells (tM.arr d) none → b ≤ len → 1 ≤ i → i < 2 ^ 41 → len ≤ d.size → d.size < 2 ^ 40 →
    (∀ σ', σ' 0 = .sl id 0 len lo ex 8 → σ' 1 = .int .i64 (a : Nat) → σ' 2 = .int .i64 (b : Nat) → σ' 3 = .fn g [] [] → σ' 9 = .int .i64 (Sort.scanSorted (ltc c) d b i : Nat) → σ' 10 = .int .i64 (q : Nat) → Res (ai (callI tab) s k .nrm σ' H) Q) →
    Res (li (callI tab) L114_1 (.inBlock 2 :: s) k σ H) Q := by
  intro m
  induction m with
  | zero =>
    intro i σ hm h0 h1 h2 h3 h9 h10 hid hd hb hp hi hl hs hQ
    have e : Sort.scanSorted (ltc c) d b i = i := by rw [Sort.scanSorted, if_neg (by simp only [Bool.and_eq_true, decide_eq_true_eq]; omega)]
    rw [e] at hQ
    obtain ⟨il, hil⟩ : ∃ x, x = Jtm.inLoop L114_1 := ⟨_, rfl⟩; rw [li_eq' il hil]
    simp -implicitDefEqProofs (disch := first | omega | with_unfolding_all exact eqR (Eq.refl _)) [nums, -getElem!_pos, -Int.natCast_add, -Int.natCast_mul, -Int.natCast_ediv, L114_1, S114_0, h0, h1, h2, h3, h9, h10, hd, hc _ _, loadM, storeM, storeM2]
    subst hil
    try simp -implicitDefEqProofs (disch := first | omega | with_unfolding_all exact eqR (Eq.refl _)) [nums, -getElem!_pos, -Int.natCast_add, -Int.natCast_mul, -Int.natCast_ediv]
    refine hQ _ ?_ ?_ ?_ ?_ ?_ ?_ <;> simp [h0, h1, h2, h3, h9, h10]
  | succ m ih =>
    intro i σ hm h0 h1 h2 h3 h9 h10 hid hd hb hp hi hl hs hQ
    by_cases c2 : c d[i]! d[i - 1]! < 0
    · have e : Sort.scanSorted (ltc c) d b i = i := by rw [Sort.scanSorted, if_neg (by simp [ltc, c2])]
      rw [e] at hQ
      obtain ⟨il, hil⟩ : ∃ x, x = Jtm.inLoop L114_1 := ⟨_, rfl⟩; rw [li_eq' il hil]
      simp -implicitDefEqProofs (disch := first | omega | with_unfolding_all exact eqR (Eq.refl _)) [nums, -getElem!_pos, -Int.natCast_add, -Int.natCast_mul, -Int.natCast_ediv, L114_1, S114_0, h0, h1, h2, h3, h9, h10, hd, hc _ _, loadM, storeM, storeM2]
      subst hil
      try simp -implicitDefEqProofs (disch := first | omega | with_unfolding_all exact eqR (Eq.refl _)) [nums, -getElem!_pos, -Int.natCast_add, -Int.natCast_mul, -Int.natCast_ediv]
      refine hQ _ ?_ ?_ ?_ ?_ ?_ ?_ <;> simp [h0, h1, h2, h3, h9, h10]
    · have e : Sort.scanSorted (ltc c) d b i = Sort.scanSorted (ltc c) d b (i + 1) := by rw [Sort.scanSorted, if_pos (by simp [ltc, c2]; omega)]
      rw [e] at hQ
      obtain ⟨il, hil⟩ : ∃ x, x = Jtm.inLoop L114_1 := ⟨_, rfl⟩; rw [li_eq' il hil]
      simp -implicitDefEqProofs (disch := first | omega | with_unfolding_all exact eqR (Eq.refl _)) [nums, -getElem!_pos, -Int.natCast_add, -Int.natCast_mul, -Int.natCast_ediv, L114_1, S114_0, h0, h1, h2, h3, h9, h10, hd, hc _ _, loadM, storeM, storeM2]
      subst hil
      try simp -implicitDefEqProofs (disch := first | omega | with_unfolding_all exact eqR (Eq.refl _)) [nums, -getElem!_pos, -Int.natCast_add, -Int.natCast_mul, -Int.natCast_ediv]
      refine ih (i + 1) _ (by omega) ?_ ?_ ?_ ?_ ?_ ?_ hid hd hb (by omega) (by omega) hl hs hQ
      all_goals simp [h0, h1, h2, h3, h9, h10]
theorem l114_5 (hc : CmpM g c) {a b q i : Nat} : ∀ (j : Nat) (σ : Sig) (H : Heap) (d : Array Mo), σ 0 = .sl id 0 len lo ex 8 → σ 1 = .int .i64 (a : Nat) → σ 2 = .int .i64 (b : Nat) → σ 3 = .fn g [] [] → σ 9 = .int .i64 (i : Nat) → σ 10 = .int .i64 (q : Nat) → σ 11 = .int .i64 (j : Nat) →
    id < H.next → H.obj id = .cells (tM.arr d) none → j < len → len ≤ d.size → d.size < 2 ^ 40 →
    (∀ σ' H', σ' 0 = .sl id 0 len lo ex 8 → σ' 1 = .int .i64 (a : Nat) → σ' 2 = .int .i64 (b : Nat) → σ' 3 = .fn g [] [] → σ' 9 = .int .i64 (i : Nat) → σ' 10 = .int .i64 (q : Nat) → Wr H H' id (.cells (tM.arr (Sort.shiftDown (ltc c) j d)) none) → Res (ai (callI tab) s k .nrm σ' H') Q) →
    Res (li (callI tab) L114_5 (.inBlock 4 :: s) k σ H) Q := by
  intro j
  induction j with
  | zero =>
    intro σ H d h0 h1 h2 h3 h9 h10 h11 hid hd hb hl hs hQ
    obtain ⟨il, hil⟩ : ∃ x, x = Jtm.inLoop L114_5 := ⟨_, rfl⟩; rw [li_eq' il hil]
    simp -implicitDefEqProofs (disch := first | omega | with_unfolding_all exact eqR (Eq.refl _)) [nums, -getElem!_pos, -Int.natCast_add, -Int.natCast_mul, -Int.natCast_ediv, L114_5, S114_4, h0, h1, h2, h3, h9, h10, h11, hd, hc _ _, loadM, storeM, storeM2]
    subst hil
    try simp -implicitDefEqProofs (disch := first | omega | with_unfolding_all exact eqR (Eq.refl _)) [nums, -getElem!_pos, -Int.natCast_add, -Int.natCast_mul, -Int.natCast_ediv]
    refine hQ _ _ ?_ ?_ ?_ ?_ ?_ ?_ (.refl hid hd) <;> simp [h0, h1, h2, h3, h9, h10, h11]
  | succ j ih =>
    intro σ H d h0 h1 h2 h3 h9 h10 h11 hid hd hb hl hs hQ
    by_cases c2 : c d[j + 1]! d[j]! < 0
    · have e : Sort.shiftDown (ltc c) (j + 1) d = Sort.shiftDown (ltc c) j (Sort.swp d (j + 1) j) := by rw [Sort.shiftDown, if_neg (by simp [ltc, c2])]
      rw [e] at hQ
      obtain ⟨il, hil⟩ : ∃ x, x = Jtm.inLoop L114_5 := ⟨_, rfl⟩; rw [li_eq' il hil]
      simp -implicitDefEqProofs (disch := first | omega | with_unfolding_all exact eqR (Eq.refl _)) [nums, -getElem!_pos, -Int.natCast_add, -Int.natCast_mul, -Int.natCast_ediv, L114_5, S114_4, S114_2, S114_3, h0, h1, h2, h3, h9, h10, h11, hd, hc _ _, loadM, storeM, storeM2]
      subst hil
      try simp -implicitDefEqProofs (disch := first | omega | with_unfolding_all exact eqR (Eq.refl _)) [nums, -getElem!_pos, -Int.natCast_add, -Int.natCast_mul, -Int.natCast_ediv]
      refine ih _ _ (Sort.swp d (j + 1) j) ?_ ?_ ?_ ?_ ?_ ?_ ?_ (by exact hid) ?_ (by omega) (by rw [swp_size]; exact hl) (by rw [swp_size]; exact hs) fun σ' H' t0 t1 t2 t3 t9 t10 hw => hQ σ' H' t0 t1 t2 t3 t9 t10 (.trans (.trans (.set hid) (.set hid)) hw)
      all_goals simp [h0, h1, h2, h3, h9, h10, h11, Sort.swp]
    · have e : Sort.shiftDown (ltc c) (j + 1) d = d := by rw [Sort.shiftDown, if_pos (by simp [ltc, c2])]
      rw [e] at hQ
      obtain ⟨il, hil⟩ : ∃ x, x = Jtm.inLoop L114_5 := ⟨_, rfl⟩; rw [li_eq' il hil]
      simp -implicitDefEqProofs (disch := first | omega | with_unfolding_all exact eqR (Eq.refl _)) [nums, -getElem!_pos, -Int.natCast_add, -Int.natCast_mul, -Int.natCast_ediv, L114_5, S114_4, S114_2, S114_3, h0, h1, h2, h3, h9, h10, h11, hd, hc _ _, loadM, storeM, storeM2]
      subst hil
      try simp -implicitDefEqProofs (disch := first | omega | with_unfolding_all exact eqR (Eq.refl _)) [nums, -getElem!_pos, -Int.natCast_add, -Int.natCast_mul, -Int.natCast_ediv]
      refine hQ _ _ ?_ ?_ ?_ ?_ ?_ ?_ (.refl hid hd) <;> simp [h0, h1, h2, h3, h9, h10, h11]
theorem l114_10 (hc : CmpM g c) {a b q i : Nat} : ∀ (m j : Nat) (σ : Sig) (H : Heap) (d : Array Mo), b - j = m → σ 0 = .sl id 0 len lo ex 8 → σ 1 = .int .i64 (a : Nat) → σ 2 = .int .i64 (b : Nat) → σ 3 = .fn g [] [] → σ 9 = .int .i64 (i : Nat) → σ 10 = .int .i64 (q : Nat) → σ 12 = .int .i64 (j : Nat) →
    id < H.next → H.obj id = .cells (tM.arr d) none → b ≤ len → 1 ≤ j → j < 2 ^ 41 → len ≤ d.size → d.size < 2 ^ 40 →
    (∀ σ' H', σ' 0 = .sl id 0 len lo ex 8 → σ' 1 = .int .i64 (a : Nat) → σ' 2 = .int .i64 (b : Nat) → σ' 3 = .fn g [] [] → σ' 9 = .int .i64 (i : Nat) → σ' 10 = .int .i64 (q : Nat) → Wr H H' id (.cells (tM.arr (Sort.shiftUp (ltc c) b j d)) none) → Res (ai (callI tab) s k .nrm σ' H') Q) →
    Res (li (callI tab) L114_10 (.inBlock 6 :: s) k σ H) Q := by
  intro m
  induction m with
  | zero =>
    intro j σ H d hm h0 h1 h2 h3 h9 h10 h12 hid hd hb hp hj hl hs hQ
    have e : Sort.shiftUp (ltc c) b j d = d := by rw [Sort.shiftUp, if_neg (by omega)]
    rw [e] at hQ
    obtain ⟨il, hil⟩ : ∃ x, x = Jtm.inLoop L114_10 := ⟨_, rfl⟩; rw [li_eq' il hil]
    simp -implicitDefEqProofs (disch := first | omega | with_unfolding_all exact eqR (Eq.refl _)) [nums, -getElem!_pos, -Int.natCast_add, -Int.natCast_mul, -Int.natCast_ediv, L114_10, S114_9, h0, h1, h2, h3, h9, h10, h12, hd, hc _ _, loadM, storeM, storeM2]
    subst hil
    try simp -implicitDefEqProofs (disch := first | omega | with_unfolding_all exact eqR (Eq.refl _)) [nums, -getElem!_pos, -Int.natCast_add, -Int.natCast_mul, -Int.natCast_ediv]
    refine hQ _ _ ?_ ?_ ?_ ?_ ?_ ?_ (.refl hid hd) <;> simp [h0, h1, h2, h3, h9, h10, h12]
  | succ m ih =>
    intro j σ H d hm h0 h1 h2 h3 h9 h10 h12 hid hd hb hp hj hl hs hQ
    by_cases c2 : c d[j]! d[j - 1]! < 0
    · have e : Sort.shiftUp (ltc c) b j d = Sort.shiftUp (ltc c) b (j + 1) (Sort.swp d j (j - 1)) := by rw [Sort.shiftUp, if_pos (by omega), if_neg (by simp [ltc, c2])]
      rw [e] at hQ
      obtain ⟨il, hil⟩ : ∃ x, x = Jtm.inLoop L114_10 := ⟨_, rfl⟩; rw [li_eq' il hil]
      simp -implicitDefEqProofs (disch := first | omega | with_unfolding_all exact eqR (Eq.refl _)) [nums, -getElem!_pos, -Int.natCast_add, -Int.natCast_mul, -Int.natCast_ediv, L114_10, S114_9, S114_7, S114_8, h0, h1, h2, h3, h9, h10, h12, hd, hc _ _, loadM, storeM, storeM2]
      subst hil
      try simp -implicitDefEqProofs (disch := first | omega | with_unfolding_all exact eqR (Eq.refl _)) [nums, -getElem!_pos, -Int.natCast_add, -Int.natCast_mul, -Int.natCast_ediv]
      refine ih (j + 1) _ _ (Sort.swp d j (j - 1)) (by omega) ?_ ?_ ?_ ?_ ?_ ?_ ?_ (by exact hid) ?_ hb (by omega) (by omega) (by rw [swp_size]; exact hl) (by rw [swp_size]; exact hs) fun σ' H' t0 t1 t2 t3 t9 t10 hw => hQ σ' H' t0 t1 t2 t3 t9 t10 (.trans (.trans (.set hid) (.set hid)) hw)
      all_goals simp [h0, h1, h2, h3, h9, h10, h12, Sort.swp]
    · have e : Sort.shiftUp (ltc c) b j d = d := by rw [Sort.shiftUp, if_pos (by omega), if_pos (by simp [ltc, c2])]
      rw [e] at hQ
      obtain ⟨il, hil⟩ : ∃ x, x = Jtm.inLoop L114_10 := ⟨_, rfl⟩; rw [li_eq' il hil]
      simp -implicitDefEqProofs (disch := first | omega | with_unfolding_all exact eqR (Eq.refl _)) [nums, -getElem!_pos, -Int.natCast_add, -Int.natCast_mul, -Int.natCast_ediv, L114_10, S114_9, S114_7, S114_8, h0, h1, h2, h3, h9, h10, h12, hd, hc _ _, loadM, storeM, storeM2]
      subst hil
      try simp -implicitDefEqProofs (disch := first | omega | with_unfolding_all exact eqR (Eq.refl _)) [nums, -getElem!_pos, -Int.natCast_add, -Int.natCast_mul, -Int.natCast_ediv]
      refine hQ _ _ ?_ ?_ ?_ ?_ ?_ ?_ (.refl hid hd) <;> simp [h0, h1, h2, h3, h9, h10, h12]
theorem s114_12 (hc : CmpM g c) {a b q i : Nat} (σ : Sig) (H : Heap) (d : Array Mo) : σ 0 = .sl id 0 len lo ex 8 → σ 1 = .int .i64 (a : Nat) → σ 2 = .int .i64 (b : Nat) → σ 3 = .fn g [] [] → σ 9 = .int .i64 (i : Nat) → σ 10 = .int .i64 (q : Nat) →
    id < H.next → H.obj id = .cells (tM.arr d) none → b ≤ len → 1 ≤ i → i ≤ b → len ≤ d.size → d.size < 2 ^ 40 →
    (∀ σ' H', σ' 0 = .sl id 0 len lo ex 8 → σ' 1 = .int .i64 (a : Nat) → σ' 2 = .int .i64 (b : Nat) → σ' 3 = .fn g [] [] → σ' 9 = .int .i64 (i : Nat) → σ' 10 = .int .i64 (q : Nat) → Wr H H' id (.cells (tM.arr (Sort.fixUp (ltc c) b i d)) none) → Res (ai (callI tab) s k .nrm σ' H') Q) →
    Res (gi (callI tab) S114_12 s k σ H) Q := by
  intro h0 h1 h2 h3 h9 h10 hid hd hb hp hi hl hs hQ
  unfold Sort.fixUp at hQ
  by_cases c1 : 2 ≤ b - i
  · rw [if_pos c1] at hQ
    simp -implicitDefEqProofs (disch := first | omega | with_unfolding_all exact eqR (Eq.refl _)) [nums, -getElem!_pos, -Int.natCast_add, -Int.natCast_mul, -Int.natCast_ediv, S114_12, S114_11, h0, h1, h2, h3, h9, h10]
    refine l114_10 (len := len) (lo := lo) (ex := ex) hc _ (i + 1) _ H d rfl ?_ ?_ ?_ ?_ ?_ ?_ ?_ hid hd hb (by omega) (by omega) hl hs hQ
    all_goals simp [h0, h1, h2, h3, h9, h10]
  · rw [if_neg c1] at hQ
    simp -implicitDefEqProofs (disch := first | omega | with_unfolding_all exact eqR (Eq.refl _)) [nums, -getElem!_pos, -Int.natCast_add, -Int.natCast_mul, -Int.natCast_ediv, S114_12, S114_11, h0, h1, h2, h3, h9, h10]
    refine hQ _ _ ?_ ?_ ?_ ?_ ?_ ?_ (.refl hid hd) <;> simp [h0, h1, h2, h3, h9, h10]
theorem s114_13 (hc : CmpM g c) {a b q i : Nat} (σ : Sig) (H : Heap) (d : Array Mo) : σ 0 = .sl id 0 len lo ex 8 → σ 1 = .int .i64 (a : Nat) → σ 2 = .int .i64 (b : Nat) → σ 3 = .fn g [] [] → σ 9 = .int .i64 (i : Nat) → σ 10 = .int .i64 (q : Nat) →
    id < H.next → H.obj id = .cells (tM.arr d) none → b ≤ len → a < i → i < b → len ≤ d.size → d.size < 2 ^ 40 →
    (∀ σ' H', σ' 0 = .sl id 0 len lo ex 8 → σ' 1 = .int .i64 (a : Nat) → σ' 2 = .int .i64 (b : Nat) → σ' 3 = .fn g [] [] → σ' 9 = .int .i64 (i : Nat) → σ' 10 = .int .i64 (q : Nat) → Wr H H' id (.cells (tM.arr (Sort.fixUp (ltc c) b i (Sort.fixDown (ltc c) a i (Sort.swp d i (i - 1))))) none) → Res (ai (callI tab) s k .nrm σ' H') Q) →
    Res (gi (callI tab) S114_13 s k σ H) Q := by
  intro h0 h1 h2 h3 h9 h10 hid hd hb hp hi hl hs hQ
  unfold Sort.fixDown at hQ
  by_cases c1 : 2 ≤ i - a
  · rw [if_pos c1] at hQ
    simp -implicitDefEqProofs (disch := first | omega | with_unfolding_all exact eqR (Eq.refl _)) [nums, -getElem!_pos, -Int.natCast_add, -Int.natCast_mul, -Int.natCast_ediv, S114_13, S114_6, h0, h1, h2, h3, h9, h10, hd, loadM, storeM, storeM2]
    refine l114_5 (len := len) (lo := lo) (ex := ex) (a := a) (b := b) (q := q) (i := i) hc (i - 1) _ _ (Sort.swp d i (i - 1)) ?_ ?_ ?_ ?_ ?_ ?_ ?_ (by exact hid) ?_ (by omega) (by rw [swp_size]; exact hl) (by rw [swp_size]; exact hs) fun σ' H' t0 t1 t2 t3 t9 t10 hw => ?_
    any_goals (first | (simp [h0, h1, h2, h3, h9, h10, Sort.swp]; done) | skip)
    simp -implicitDefEqProofs (disch := first | omega | with_unfolding_all exact eqR (Eq.refl _)) [nums, -getElem!_pos, -Int.natCast_add, -Int.natCast_mul, -Int.natCast_ediv]
    refine s114_12 (len := len) (lo := lo) (ex := ex) hc σ' H' _ t0 t1 t2 t3 t9 t10 (by rw [hw.nxt]; exact hid) hw.at hb (by omega) (by omega) (by rw [shiftDown_size, swp_size]; exact hl) (by rw [shiftDown_size, swp_size]; exact hs) fun σ2 H2 t0 t1 t2 t3 t9 t10 hw2 => hQ σ2 H2 t0 t1 t2 t3 t9 t10 ((Wr.trans (.trans (.set hid) (.set hid)) hw).trans hw2)
  · rw [if_neg c1] at hQ
    simp -implicitDefEqProofs (disch := first | omega | with_unfolding_all exact eqR (Eq.refl _)) [nums, -getElem!_pos, -Int.natCast_add, -Int.natCast_mul, -Int.natCast_ediv, S114_13, S114_6, h0, h1, h2, h3, h9, h10, hd, loadM, storeM, storeM2]
    refine s114_12 (len := len) (lo := lo) (ex := ex) hc _ _ (Sort.swp d i (i - 1)) ?_ ?_ ?_ ?_ ?_ ?_ (by exact hid) ?_ hb (by omega) (by omega) (by rw [swp_size]; exact hl) (by rw [swp_size]; exact hs) fun σ2 H2 t0 t1 t2 t3 t9 t10 hw2 => hQ σ2 H2 t0 t1 t2 t3 t9 t10 (Wr.trans (.trans (.set hid) (.set hid)) hw2)
    all_goals simp [h0, h1, h2, h3, h9, h10, Sort.swp]
theorem l114_18 (hc : CmpM g c) {a b : Nat} (H0 : Heap) : ∀ (u i : Nat) (σ : Sig) (H : Heap) (d : Array Mo), u ≤ 5 → σ 0 = .sl id 0 len lo ex 8 → σ 1 = .int .i64 (a : Nat) → σ 2 = .int .i64 (b : Nat) → σ 3 = .fn g [] [] → σ 9 = .int .i64 (i : Nat) → σ 10 = .int .i64 ((5 - u : Nat) : Nat) →
    id < H.next → H.obj id = .cells (tM.arr d) none → b ≤ len → a < i → i ≤ b → len ≤ d.size → d.size < 2 ^ 40 →
    (∀ H', Wr H H' id (.cells (tM.arr (Sort.partialIns (ltc c) a b u i d).1) none) → Res (some (wrapA H0 (.bool (Sort.partialIns (ltc c) a b u i d).2) H')) Q) →
    Res (li (callI tab) L114_18 [.inBlock 0, .code S114_19] (fink [.tmp 8] false H0) σ H) Q := by
  intro u
  induction u with
  | zero =>
    intro i σ H d hu h0 h1 h2 h3 h9 h10 hid hd hb hp hi hl hs hQ
    obtain ⟨il, hil⟩ : ∃ x, x = Jtm.inLoop L114_18 := ⟨_, rfl⟩; rw [li_eq' il hil]
    simp -implicitDefEqProofs (disch := first | omega | with_unfolding_all exact eqR (Eq.refl _)) [nums, -getElem!_pos, -Int.natCast_add, -Int.natCast_mul, -Int.natCast_ediv, L114_18, S114_17, h0, h1, h2, h3, h9, h10, S114_19]
    subst hil
    try simp -implicitDefEqProofs (disch := first | omega | with_unfolding_all exact eqR (Eq.refl _)) [nums, -getElem!_pos, -Int.natCast_add, -Int.natCast_mul, -Int.natCast_ediv, S114_19]
    exact hQ _ (.refl hid hd)
  | succ u ih =>
    intro i σ H d hu h0 h1 h2 h3 h9 h10 hid hd hb hp hi hl hs hQ
    rw [Sort.partialIns_succ] at hQ
    have bd := scanSorted_bd (ltc c) d b _ i (Nat.le_refl _) hi
    obtain ⟨il, hil⟩ : ∃ x, x = Jtm.inLoop L114_18 := ⟨_, rfl⟩; rw [li_eq' il hil]
    simp -implicitDefEqProofs (disch := first | omega | with_unfolding_all exact eqR (Eq.refl _)) [nums, -getElem!_pos, -Int.natCast_add, -Int.natCast_mul, -Int.natCast_ediv, L114_18, S114_17, h0, h1, h2, h3, h9, h10]
    refine l114_1 (len := len) (lo := lo) (ex := ex) (a := a) (q := 5 - (u + 1)) hc _ i _ rfl ?_ ?_ ?_ ?_ ?_ ?_ hid hd hb (by omega) (by omega) hl hs fun σ' t0 t1 t2 t3 t9 t10 => ?_
    any_goals (first | (simp [h0, h1, h2, h3, h9, h10]; done) | skip)
    generalize Sort.scanSorted (ltc c) d b i = k at *
    by_cases c1 : k = b
    · rw [if_pos c1] at hQ
      simp -implicitDefEqProofs (disch := first | omega | with_unfolding_all exact eqR (Eq.refl _)) [nums, -getElem!_pos, -Int.natCast_add, -Int.natCast_mul, -Int.natCast_ediv, S114_15, t0, t1, t2, t3, t9, t10]
      subst hil
      try simp -implicitDefEqProofs (disch := first | omega | with_unfolding_all exact eqR (Eq.refl _)) [nums, -getElem!_pos, -Int.natCast_add, -Int.natCast_mul, -Int.natCast_ediv]
      exact hQ _ (.refl hid hd)
    · rw [if_neg c1] at hQ
      by_cases c2 : b - a < 50
      · rw [if_pos c2] at hQ
        simp -implicitDefEqProofs (disch := first | omega | with_unfolding_all exact eqR (Eq.refl _)) [nums, -getElem!_pos, -Int.natCast_add, -Int.natCast_mul, -Int.natCast_ediv, S114_15, S114_14, t0, t1, t2, t3, t9, t10]
        subst hil
        try simp -implicitDefEqProofs (disch := first | omega | with_unfolding_all exact eqR (Eq.refl _)) [nums, -getElem!_pos, -Int.natCast_add, -Int.natCast_mul, -Int.natCast_ediv]
        exact hQ _ (.refl hid hd)
      · rw [if_neg c2] at hQ
        simp -implicitDefEqProofs (disch := first | omega | with_unfolding_all exact eqR (Eq.refl _)) [nums, -getElem!_pos, -Int.natCast_add, -Int.natCast_mul, -Int.natCast_ediv, S114_15, S114_14, t0, t1, t2, t3, t9, t10]
        refine s114_13 (len := len) (lo := lo) (ex := ex) (a := a) (b := b) (i := k) (q := 5 - (u + 1)) hc _ H d ?_ ?_ ?_ ?_ ?_ ?_ hid hd hb (by omega) (by omega) hl hs fun σ2 H2 u0 u1 u2 u3 u9 u10 hw => ?_
        any_goals (first | (simp [t0, t1, t2, t3, t9, t10]; done) | skip)
        have hsz : (Sort.fixUp (ltc c) b k (Sort.fixDown (ltc c) a k (Sort.swp d k (k - 1)))).size = d.size := by
          unfold Sort.fixUp Sort.fixDown
          split <;> split <;> simp [shiftUp_size _ _ _ _ _ (Nat.le_refl _), shiftDown_size, swp_size]
        simp -implicitDefEqProofs (disch := first | omega | with_unfolding_all exact eqR (Eq.refl _)) [nums, -getElem!_pos, -Int.natCast_add, -Int.natCast_mul, -Int.natCast_ediv, S114_16, u0, u1, u2, u3, u9, u10]
        subst hil
        try simp -implicitDefEqProofs (disch := first | omega | with_unfolding_all exact eqR (Eq.refl _)) [nums, -getElem!_pos, -Int.natCast_add, -Int.natCast_mul, -Int.natCast_ediv]
        refine ih k _ _ _ (by omega) ?_ ?_ ?_ ?_ ?_ ?_ (by rw [hw.nxt]; exact hid) hw.at hb (by omega) (by omega) (by rw [hsz]; exact hl) (by rw [hsz]; exact hs) fun H' hw' => hQ H' (hw.trans hw')
        all_goals (first | (simp [u0, u1, u2, u3, u9, u10]; done) | (simp [u0, u1, u2, u3, u9, u10]; omega))
theorem call_114 (hc : CmpM g c) {a b : Nat} {H : Heap} {d : Array Mo} (hid : id < H.next) (hd : H.obj id = (.cells (tM.arr d) none)) (hb : b ≤ len) (ha : a < b) (hl : len ≤ d.size) (hs : d.size < 2 ^ 40) :
    Res (callI tab 78 [.sl id 0 len lo ex 8, .int .i64 a, .int .i64 b, .fn g [] []] H) fun v H' => v = .bool (Sort.partialInsertionSort (ltc c) d a b).2 ∧ Wr H H' id (.cells (tM.arr (Sort.partialInsertionSort (ltc c) d a b).1) none) := by
  refine .hide fun Q hQ => .enter tab_114 (by simp [AF114]) (.inl rfl) ?_
  simp -implicitDefEqProofs (disch := first | omega | with_unfolding_all exact eqR (Eq.refl _)) [nums, -getElem!_pos, -Int.natCast_add, -Int.natCast_mul, -Int.natCast_ediv, AF114]
  refine l114_18 (len := len) (lo := lo) (ex := ex) (a := a) (b := b) hc H 5 (a + 1) _ _ d (Nat.le_refl _) ?_ ?_ ?_ ?_ ?_ ?_ hid hd hb (by omega) (by omega) hl hs fun H' hw => ?_
  any_goals (first | (simp; done) | skip)
  obtain ⟨H2, e, w⟩ := hw.toFx.wrapA (H := H) (v := .bool _) rfl
  rw [e]
  exact .mk (hQ _ _ ⟨rfl, w⟩)
theorem l134_1 {a b q : Nat} {H : Heap} {d : Array Int} : ∀ (m i : Nat) (σ : Sig), b - i = m → σ 0 = .sl id 0 len lo ex 1 → σ 1 = .int .i64 (a : Nat) → σ 2 = .int .i64 (b : Nat) → σ 7 = .int .i64 (i : Nat) → σ 8 = .int .i64 (q : Nat) →
    id < H.next → H.obj id = .cells (tB.arr d) none → b ≤ len → 1 ≤ i → i < 2 ^ 41 → len ≤ d.size → d.size < 2 ^ 40 →
    (∀ σ', σ' 0 = .sl id 0 len lo ex 1 → σ' 1 = .int .i64 (a : Nat) → σ' 2 = .int .i64 (b : Nat) → σ' 7 = .int .i64 (Sort.scanSorted ltB d b i : Nat) → σ' 8 = .int .i64 (q : Nat) → Res (ai (callI tab) s k .nrm σ' H) Q) →
    Res (li (callI tab) L134_1 (.inBlock 2 :: s) k σ H) Q := by
  intro m
  induction m with
  | zero =>
    intro i σ hm h0 h1 h2 h9 h10 hid hd hb hp hi hl hs hQ
    have e : Sort.scanSorted ltB d b i = i := by rw [Sort.scanSorted, if_neg (by simp only [Bool.and_eq_true, decide_eq_true_eq]; omega)]
    rw [e] at hQ
    obtain ⟨il, hil⟩ : ∃ x, x = Jtm.inLoop L134_1 := ⟨_, rfl⟩; rw [li_eq' il hil]
    simp -implicitDefEqProofs (disch := first | omega | with_unfolding_all exact eqR (Eq.refl _)) [nums, -getElem!_pos, -Int.natCast_add, -Int.natCast_mul, -Int.natCast_ediv, L134_1, S134_0, h0, h1, h2, h9, h10, hd, call_135, loadB, storeB, storeB2]
    subst hil
    try simp -implicitDefEqProofs (disch := first | omega | with_unfolding_all exact eqR (Eq.refl _)) [nums, -getElem!_pos, -Int.natCast_add, -Int.natCast_mul, -Int.natCast_ediv]
    refine hQ _ ?_ ?_ ?_ ?_ ?_ <;> simp [h0, h1, h2, h9, h10]
  | succ m ih =>
    intro i σ hm h0 h1 h2 h9 h10 hid hd hb hp hi hl hs hQ
    by_cases c2 : d[i]! < d[i - 1]!
    · have e : Sort.scanSorted ltB d b i = i := by rw [Sort.scanSorted, if_neg (by simp [ltB, c2])]
      rw [e] at hQ
      obtain ⟨il, hil⟩ : ∃ x, x = Jtm.inLoop L134_1 := ⟨_, rfl⟩; rw [li_eq' il hil]
      simp -implicitDefEqProofs (disch := first | omega | with_unfolding_all exact eqR (Eq.refl _)) [nums, -getElem!_pos, -Int.natCast_add, -Int.natCast_mul, -Int.natCast_ediv, L134_1, S134_0, h0, h1, h2, h9, h10, hd, call_135, loadB, storeB, storeB2]
      subst hil
      try simp -implicitDefEqProofs (disch := first | omega | with_unfolding_all exact eqR (Eq.refl _)) [nums, -getElem!_pos, -Int.natCast_add, -Int.natCast_mul, -Int.natCast_ediv]
      refine hQ _ ?_ ?_ ?_ ?_ ?_ <;> simp [h0, h1, h2, h9, h10]
    · have e : Sort.scanSorted ltB d b i = Sort.scanSorted ltB d b (i + 1) := by rw [Sort.scanSorted, if_pos (by simp [ltB, c2]; omega)]
      rw [e] at hQ
      obtain ⟨il, hil⟩ : ∃ x, x = Jtm.inLoop L134_1 := ⟨_, rfl⟩; rw [li_eq' il hil]
      simp -implicitDefEqProofs (disch := first | omega | with_unfolding_all exact eqR (Eq.refl _)) [nums, -getElem!_pos, -Int.natCast_add, -Int.natCast_mul, -Int.natCast_ediv, L134_1, S134_0, h0, h1, h2, h9, h10, hd, call_135, loadB, storeB, storeB2]
      subst hil
      try simp -implicitDefEqProofs (disch := first | omega | with_unfolding_all exact eqR (Eq.refl _)) [nums, -getElem!_pos, -Int.natCast_add, -Int.natCast_mul, -Int.natCast_ediv]
      refine ih (i + 1) _ (by omega) ?_ ?_ ?_ ?_ ?_ hid hd hb (by omega) (by omega) hl hs hQ
      all_goals simp [h0, h1, h2, h9, h10]
theorem l134_5 {a b q i : Nat} : ∀ (j : Nat) (σ : Sig) (H : Heap) (d : Array Int), σ 0 = .sl id 0 len lo ex 1 → σ 1 = .int .i64 (a : Nat) → σ 2 = .int .i64 (b : Nat) → σ 7 = .int .i64 (i : Nat) → σ 8 = .int .i64 (q : Nat) → σ 9 = .int .i64 (j : Nat) →
    id < H.next → H.obj id = .cells (tB.arr d) none → j < len → len ≤ d.size → d.size < 2 ^ 40 →
    (∀ σ' H', σ' 0 = .sl id 0 len lo ex 1 → σ' 1 = .int .i64 (a : Nat) → σ' 2 = .int .i64 (b : Nat) → σ' 7 = .int .i64 (i : Nat) → σ' 8 = .int .i64 (q : Nat) → Wr H H' id (.cells (tB.arr (Sort.shiftDown ltB j d)) none) → Res (ai (callI tab) s k .nrm σ' H') Q) →
    Res (li (callI tab) L134_5 (.inBlock 4 :: s) k σ H) Q := by
  intro j
  induction j with
  | zero =>
    intro σ H d h0 h1 h2 h9 h10 h11 hid hd hb hl hs hQ
    obtain ⟨il, hil⟩ : ∃ x, x = Jtm.inLoop L134_5 := ⟨_, rfl⟩; rw [li_eq' il hil]
    simp -implicitDefEqProofs (disch := first | omega | with_unfolding_all exact eqR (Eq.refl _)) [nums, -getElem!_pos, -Int.natCast_add, -Int.natCast_mul, -Int.natCast_ediv, L134_5, S134_4, h0, h1, h2, h9, h10, h11, hd, call_135, loadB, storeB, storeB2]
    subst hil
    try simp -implicitDefEqProofs (disch := first | omega | with_unfolding_all exact eqR (Eq.refl _)) [nums, -getElem!_pos, -Int.natCast_add, -Int.natCast_mul, -Int.natCast_ediv]
    refine hQ _ _ ?_ ?_ ?_ ?_ ?_ (.refl hid hd) <;> simp [h0, h1, h2, h9, h10, h11]
  | succ j ih =>
    intro σ H d h0 h1 h2 h9 h10 h11 hid hd hb hl hs hQ
    by_cases c2 : d[j + 1]! < d[j]!
    · have e : Sort.shiftDown ltB (j + 1) d = Sort.shiftDown ltB j (Sort.swp d (j + 1) j) := by rw [Sort.shiftDown, if_neg (by simp [ltB, c2])]
      rw [e] at hQ
      obtain ⟨il, hil⟩ : ∃ x, x = Jtm.inLoop L134_5 := ⟨_, rfl⟩; rw [li_eq' il hil]
      simp -implicitDefEqProofs (disch := first | omega | with_unfolding_all exact eqR (Eq.refl _)) [nums, -getElem!_pos, -Int.natCast_add, -Int.natCast_mul, -Int.natCast_ediv, L134_5, S134_4, S134_2, S134_3, h0, h1, h2, h9, h10, h11, hd, call_135, loadB, storeB, storeB2]
      subst hil
      try simp -implicitDefEqProofs (disch := first | omega | with_unfolding_all exact eqR (Eq.refl _)) [nums, -getElem!_pos, -Int.natCast_add, -Int.natCast_mul, -Int.natCast_ediv]
      refine ih _ _ (Sort.swp d (j + 1) j) ?_ ?_ ?_ ?_ ?_ ?_ (by exact hid) ?_ (by omega) (by rw [swp_size]; exact hl) (by rw [swp_size]; exact hs) fun σ' H' t0 t1 t2 t9 t10 hw => hQ σ' H' t0 t1 t2 t9 t10 (.trans (.trans (.set hid) (.set hid)) hw)
      all_goals simp [h0, h1, h2, h9, h10, h11, Sort.swp]
    · have e : Sort.shiftDown ltB (j + 1) d = d := by rw [Sort.shiftDown, if_pos (by simp [ltB, c2])]
      rw [e] at hQ
      obtain ⟨il, hil⟩ : ∃ x, x = Jtm.inLoop L134_5 := ⟨_, rfl⟩; rw [li_eq' il hil]
      simp -implicitDefEqProofs (disch := first | omega | with_unfolding_all exact eqR (Eq.refl _)) [nums, -getElem!_pos, -Int.natCast_add, -Int.natCast_mul, -Int.natCast_ediv, L134_5, S134_4, S134_2, S134_3, h0, h1, h2, h9, h10, h11, hd, call_135, loadB, storeB, storeB2]
      subst hil
      try simp -implicitDefEqProofs (disch := first | omega | with_unfolding_all exact eqR (Eq.refl _)) [nums, -getElem!_pos, -Int.natCast_add, -Int.natCast_mul, -Int.natCast_ediv]
      refine hQ _ _ ?_ ?_ ?_ ?_ ?_ (.refl hid hd) <;> simp [h0, h1, h2, h9, h10, h11]
theorem l134_10 {a b q i : Nat} : ∀ (m j : Nat) (σ : Sig) (H : Heap) (d : Array Int), b - j = m → σ 0 = .sl id 0 len lo ex 1 → σ 1 = .int .i64 (a : Nat) → σ 2 = .int .i64 (b : Nat) → σ 7 = .int .i64 (i : Nat) → σ 8 = .int .i64 (q : Nat) → σ 10 = .int .i64 (j : Nat) →
    id < H.next → H.obj id = .cells (tB.arr d) none → b ≤ len → 1 ≤ j → j < 2 ^ 41 → len ≤ d.size → d.size < 2 ^ 40 →
    (∀ σ' H', σ' 0 = .sl id 0 len lo ex 1 → σ' 1 = .int .i64 (a : Nat) → σ' 2 = .int .i64 (b : Nat) → σ' 7 = .int .i64 (i : Nat) → σ' 8 = .int .i64 (q : Nat) → Wr H H' id (.cells (tB.arr (Sort.shiftUp ltB b j d)) none) → Res (ai (callI tab) s k .nrm σ' H') Q) →
    Res (li (callI tab) L134_10 (.inBlock 6 :: s) k σ H) Q := by
  intro m
  induction m with
  | zero =>
    intro j σ H d hm h0 h1 h2 h9 h10 h12 hid hd hb hp hj hl hs hQ
    have e : Sort.shiftUp ltB b j d = d := by rw [Sort.shiftUp, if_neg (by omega)]
    rw [e] at hQ
    obtain ⟨il, hil⟩ : ∃ x, x = Jtm.inLoop L134_10 := ⟨_, rfl⟩; rw [li_eq' il hil]
    simp -implicitDefEqProofs (disch := first | omega | with_unfolding_all exact eqR (Eq.refl _)) [nums, -getElem!_pos, -Int.natCast_add, -Int.natCast_mul, -Int.natCast_ediv, L134_10, S134_9, h0, h1, h2, h9, h10, h12, hd, call_135, loadB, storeB, storeB2]
    subst hil
    try simp -implicitDefEqProofs (disch := first | omega | with_unfolding_all exact eqR (Eq.refl _)) [nums, -getElem!_pos, -Int.natCast_add, -Int.natCast_mul, -Int.natCast_ediv]
    refine hQ _ _ ?_ ?_ ?_ ?_ ?_ (.refl hid hd) <;> simp [h0, h1, h2, h9, h10, h12]
  | succ m ih =>
    intro j σ H d hm h0 h1 h2 h9 h10 h12 hid hd hb hp hj hl hs hQ
    by_cases c2 : d[j]! < d[j - 1]!
    · have e : Sort.shiftUp ltB b j d = Sort.shiftUp ltB b (j + 1) (Sort.swp d j (j - 1)) := by rw [Sort.shiftUp, if_pos (by omega), if_neg (by simp [ltB, c2])]
      rw [e] at hQ
      obtain ⟨il, hil⟩ : ∃ x, x = Jtm.inLoop L134_10 := ⟨_, rfl⟩; rw [li_eq' il hil]
      simp -implicitDefEqProofs (disch := first | omega | with_unfolding_all exact eqR (Eq.refl _)) [nums, -getElem!_pos, -Int.natCast_add, -Int.natCast_mul, -Int.natCast_ediv, L134_10, S134_9, S134_7, S134_8, h0, h1, h2, h9, h10, h12, hd, call_135, loadB, storeB, storeB2]
      subst hil
      try simp -implicitDefEqProofs (disch := first | omega | with_unfolding_all exact eqR (Eq.refl _)) [nums, -getElem!_pos, -Int.natCast_add, -Int.natCast_mul, -Int.natCast_ediv]
      refine ih (j + 1) _ _ (Sort.swp d j (j - 1)) (by omega) ?_ ?_ ?_ ?_ ?_ ?_ (by exact hid) ?_ hb (by omega) (by omega) (by rw [swp_size]; exact hl) (by rw [swp_size]; exact hs) fun σ' H' t0 t1 t2 t9 t10 hw => hQ σ' H' t0 t1 t2 t9 t10 (.trans (.trans (.set hid) (.set hid)) hw)
      all_goals simp [h0, h1, h2, h9, h10, h12, Sort.swp]
    · have e : Sort.shiftUp ltB b j d = d := by rw [Sort.shiftUp, if_pos (by omega), if_pos (by simp [ltB, c2])]
      rw [e] at hQ
      obtain ⟨il, hil⟩ : ∃ x, x = Jtm.inLoop L134_10 := ⟨_, rfl⟩; rw [li_eq' il hil]
      simp -implicitDefEqProofs (disch := first | omega | with_unfolding_all exact eqR (Eq.refl _)) [nums, -getElem!_pos, -Int.natCast_add, -Int.natCast_mul, -Int.natCast_ediv, L134_10, S134_9, S134_7, S134_8, h0, h1, h2, h9, h10, h12, hd, call_135, loadB, storeB, storeB2]
      subst hil
      try simp -implicitDefEqProofs (disch := first | omega | with_unfolding_all exact eqR (Eq.refl _)) [nums, -getElem!_pos, -Int.natCast_add, -Int.natCast_mul, -Int.natCast_ediv]
      refine hQ _ _ ?_ ?_ ?_ ?_ ?_ (.refl hid hd) <;> simp [h0, h1, h2, h9, h10, h12]
theorem s134_12 {a b q i : Nat} (σ : Sig) (H : Heap) (d : Array Int) : σ 0 = .sl id 0 len lo ex 1 → σ 1 = .int .i64 (a : Nat) → σ 2 = .int .i64 (b : Nat) → σ 7 = .int .i64 (i : Nat) → σ 8 = .int .i64 (q : Nat) →
    id < H.next → H.obj id = .cells (tB.arr d) none → b ≤ len → 1 ≤ i → i ≤ b → len ≤ d.size → d.size < 2 ^ 40 →
    (∀ σ' H', σ' 0 = .sl id 0 len lo ex 1 → σ' 1 = .int .i64 (a : Nat) → σ' 2 = .int .i64 (b : Nat) → σ' 7 = .int .i64 (i : Nat) → σ' 8 = .int .i64 (q : Nat) → Wr H H' id (.cells (tB.arr (Sort.fixUp ltB b i d)) none) → Res (ai (callI tab) s k .nrm σ' H') Q) →
    Res (gi (callI tab) S134_12 s k σ H) Q := by
  intro h0 h1 h2 h9 h10 hid hd hb hp hi hl hs hQ
  unfold Sort.fixUp at hQ
  by_cases c1 : 2 ≤ b - i
  · rw [if_pos c1] at hQ
    simp -implicitDefEqProofs (disch := first | omega | with_unfolding_all exact eqR (Eq.refl _)) [nums, -getElem!_pos, -Int.natCast_add, -Int.natCast_mul, -Int.natCast_ediv, S134_12, S134_11, h0, h1, h2, h9, h10]
    refine l134_10 (len := len) (lo := lo) (ex := ex) _ (i + 1) _ H d rfl ?_ ?_ ?_ ?_ ?_ ?_ hid hd hb (by omega) (by omega) hl hs hQ
    all_goals simp [h0, h1, h2, h9, h10]
  · rw [if_neg c1] at hQ
    simp -implicitDefEqProofs (disch := first | omega | with_unfolding_all exact eqR (Eq.refl _)) [nums, -getElem!_pos, -Int.natCast_add, -Int.natCast_mul, -Int.natCast_ediv, S134_12, S134_11, h0, h1, h2, h9, h10]
    refine hQ _ _ ?_ ?_ ?_ ?_ ?_ (.refl hid hd) <;> simp [h0, h1, h2, h9, h10]
theorem s134_13 {a b q i : Nat} (σ : Sig) (H : Heap) (d : Array Int) : σ 0 = .sl id 0 len lo ex 1 → σ 1 = .int .i64 (a : Nat) → σ 2 = .int .i64 (b : Nat) → σ 7 = .int .i64 (i : Nat) → σ 8 = .int .i64 (q : Nat) →
    id < H.next → H.obj id = .cells (tB.arr d) none → b ≤ len → a < i → i < b → len ≤ d.size → d.size < 2 ^ 40 →
    (∀ σ' H', σ' 0 = .sl id 0 len lo ex 1 → σ' 1 = .int .i64 (a : Nat) → σ' 2 = .int .i64 (b : Nat) → σ' 7 = .int .i64 (i : Nat) → σ' 8 = .int .i64 (q : Nat) → Wr H H' id (.cells (tB.arr (Sort.fixUp ltB b i (Sort.fixDown ltB a i (Sort.swp d i (i - 1))))) none) → Res (ai (callI tab) s k .nrm σ' H') Q) →
    Res (gi (callI tab) S134_13 s k σ H) Q := by
  intro h0 h1 h2 h9 h10 hid hd hb hp hi hl hs hQ
  unfold Sort.fixDown at hQ
  by_cases c1 : 2 ≤ i - a
  · rw [if_pos c1] at hQ
    simp -implicitDefEqProofs (disch := first | omega | with_unfolding_all exact eqR (Eq.refl _)) [nums, -getElem!_pos, -Int.natCast_add, -Int.natCast_mul, -Int.natCast_ediv, S134_13, S134_6, h0, h1, h2, h9, h10, hd, loadB, storeB, storeB2]
    refine l134_5 (len := len) (lo := lo) (ex := ex) (a := a) (b := b) (q := q) (i := i) (i - 1) _ _ (Sort.swp d i (i - 1)) ?_ ?_ ?_ ?_ ?_ ?_ (by exact hid) ?_ (by omega) (by rw [swp_size]; exact hl) (by rw [swp_size]; exact hs) fun σ' H' t0 t1 t2 t9 t10 hw => ?_
    any_goals (first | (simp [h0, h1, h2, h9, h10, Sort.swp]; done) | skip)
    simp -implicitDefEqProofs (disch := first | omega | with_unfolding_all exact eqR (Eq.refl _)) [nums, -getElem!_pos, -Int.natCast_add, -Int.natCast_mul, -Int.natCast_ediv]
    refine s134_12 (len := len) (lo := lo) (ex := ex) σ' H' _ t0 t1 t2 t9 t10 (by rw [hw.nxt]; exact hid) hw.at hb (by omega) (by omega) (by rw [shiftDown_size, swp_size]; exact hl) (by rw [shiftDown_size, swp_size]; exact hs) fun σ2 H2 t0 t1 t2 t9 t10 hw2 => hQ σ2 H2 t0 t1 t2 t9 t10 ((Wr.trans (.trans (.set hid) (.set hid)) hw).trans hw2)
  · rw [if_neg c1] at hQ
    simp -implicitDefEqProofs (disch := first | omega | with_unfolding_all exact eqR (Eq.refl _)) [nums, -getElem!_pos, -Int.natCast_add, -Int.natCast_mul, -Int.natCast_ediv, S134_13, S134_6, h0, h1, h2, h9, h10, hd, loadB, storeB, storeB2]
    refine s134_12 (len := len) (lo := lo) (ex := ex) _ _ (Sort.swp d i (i - 1)) ?_ ?_ ?_ ?_ ?_ (by exact hid) ?_ hb (by omega) (by omega) (by rw [swp_size]; exact hl) (by rw [swp_size]; exact hs) fun σ2 H2 t0 t1 t2 t9 t10 hw2 => hQ σ2 H2 t0 t1 t2 t9 t10 (Wr.trans (.trans (.set hid) (.set hid)) hw2)
    all_goals simp [h0, h1, h2, h9, h10, Sort.swp]
theorem l134_18 {a b : Nat} (H0 : Heap) : ∀ (u i : Nat) (σ : Sig) (H : Heap) (d : Array Int), u ≤ 5 → σ 0 = .sl id 0 len lo ex 1 → σ 1 = .int .i64 (a : Nat) → σ 2 = .int .i64 (b : Nat) → σ 7 = .int .i64 (i : Nat) → σ 8 = .int .i64 ((5 - u : Nat) : Nat) →
    id < H.next → H.obj id = .cells (tB.arr d) none → b ≤ len → a < i → i ≤ b → len ≤ d.size → d.size < 2 ^ 40 →
    (∀ H', Wr H H' id (.cells (tB.arr (Sort.partialIns ltB a b u i d).1) none) → Res (some (wrapA H0 (.bool (Sort.partialIns ltB a b u i d).2) H')) Q) →
    Res (li (callI tab) L134_18 [.inBlock 0, .code S134_19] (fink [.tmp 6] false H0) σ H) Q := by
  intro u
  induction u with
  | zero =>
    intro i σ H d hu h0 h1 h2 h9 h10 hid hd hb hp hi hl hs hQ
    obtain ⟨il, hil⟩ : ∃ x, x = Jtm.inLoop L134_18 := ⟨_, rfl⟩; rw [li_eq' il hil]
    simp -implicitDefEqProofs (disch := first | omega | with_unfolding_all exact eqR (Eq.refl _)) [nums, -getElem!_pos, -Int.natCast_add, -Int.natCast_mul, -Int.natCast_ediv, L134_18, S134_17, h0, h1, h2, h9, h10, S134_19]
    subst hil
    try simp -implicitDefEqProofs (disch := first | omega | with_unfolding_all exact eqR (Eq.refl _)) [nums, -getElem!_pos, -Int.natCast_add, -Int.natCast_mul, -Int.natCast_ediv, S134_19]
    exact hQ _ (.refl hid hd)
  | succ u ih =>
    intro i σ H d hu h0 h1 h2 h9 h10 hid hd hb hp hi hl hs hQ
    rw [Sort.partialIns_succ] at hQ
    have bd := scanSorted_bd ltB d b _ i (Nat.le_refl _) hi
    obtain ⟨il, hil⟩ : ∃ x, x = Jtm.inLoop L134_18 := ⟨_, rfl⟩; rw [li_eq' il hil]
    simp -implicitDefEqProofs (disch := first | omega | with_unfolding_all exact eqR (Eq.refl _)) [nums, -getElem!_pos, -Int.natCast_add, -Int.natCast_mul, -Int.natCast_ediv, L134_18, S134_17, h0, h1, h2, h9, h10]
    refine l134_1 (len := len) (lo := lo) (ex := ex) (a := a) (q := 5 - (u + 1)) _ i _ rfl ?_ ?_ ?_ ?_ ?_ hid hd hb (by omega) (by omega) hl hs fun σ' t0 t1 t2 t9 t10 => ?_
    any_goals (first | (simp [h0, h1, h2, h9, h10]; done) | skip)
    generalize Sort.scanSorted ltB d b i = k at *
    by_cases c1 : k = b
    · rw [if_pos c1] at hQ
      simp -implicitDefEqProofs (disch := first | omega | with_unfolding_all exact eqR (Eq.refl _)) [nums, -getElem!_pos, -Int.natCast_add, -Int.natCast_mul, -Int.natCast_ediv, S134_15, t0, t1, t2, t9, t10]
      subst hil
      try simp -implicitDefEqProofs (disch := first | omega | with_unfolding_all exact eqR (Eq.refl _)) [nums, -getElem!_pos, -Int.natCast_add, -Int.natCast_mul, -Int.natCast_ediv]
      exact hQ _ (.refl hid hd)
    · rw [if_neg c1] at hQ
      by_cases c2 : b - a < 50
      · rw [if_pos c2] at hQ
        simp -implicitDefEqProofs (disch := first | omega | with_unfolding_all exact eqR (Eq.refl _)) [nums, -getElem!_pos, -Int.natCast_add, -Int.natCast_mul, -Int.natCast_ediv, S134_15, S134_14, t0, t1, t2, t9, t10]
        subst hil
        try simp -implicitDefEqProofs (disch := first | omega | with_unfolding_all exact eqR (Eq.refl _)) [nums, -getElem!_pos, -Int.natCast_add, -Int.natCast_mul, -Int.natCast_ediv]
        exact hQ _ (.refl hid hd)
      · rw [if_neg c2] at hQ
        simp -implicitDefEqProofs (disch := first | omega | with_unfolding_all exact eqR (Eq.refl _)) [nums, -getElem!_pos, -Int.natCast_add, -Int.natCast_mul, -Int.natCast_ediv, S134_15, S134_14, t0, t1, t2, t9, t10]
        refine s134_13 (len := len) (lo := lo) (ex := ex) (a := a) (b := b) (i := k) (q := 5 - (u + 1)) _ H d ?_ ?_ ?_ ?_ ?_ hid hd hb (by omega) (by omega) hl hs fun σ2 H2 u0 u1 u2 u9 u10 hw => ?_
        any_goals (first | (simp [t0, t1, t2, t9, t10]; done) | skip)
        have hsz : (Sort.fixUp ltB b k (Sort.fixDown ltB a k (Sort.swp d k (k - 1)))).size = d.size := by
          unfold Sort.fixUp Sort.fixDown
          split <;> split <;> simp [shiftUp_size _ _ _ _ _ (Nat.le_refl _), shiftDown_size, swp_size]
        simp -implicitDefEqProofs (disch := first | omega | with_unfolding_all exact eqR (Eq.refl _)) [nums, -getElem!_pos, -Int.natCast_add, -Int.natCast_mul, -Int.natCast_ediv, S134_16, u0, u1, u2, u9, u10]
        subst hil
        try simp -implicitDefEqProofs (disch := first | omega | with_unfolding_all exact eqR (Eq.refl _)) [nums, -getElem!_pos, -Int.natCast_add, -Int.natCast_mul, -Int.natCast_ediv]
        refine ih k _ _ _ (by omega) ?_ ?_ ?_ ?_ ?_ (by rw [hw.nxt]; exact hid) hw.at hb (by omega) (by omega) (by rw [hsz]; exact hl) (by rw [hsz]; exact hs) fun H' hw' => hQ H' (hw.trans hw')
        all_goals (first | (simp [u0, u1, u2, u9, u10]; done) | (simp [u0, u1, u2, u9, u10]; omega))
theorem call_134 {a b : Nat} {H : Heap} {d : Array Int} (hid : id < H.next) (hd : H.obj id = (.cells (tB.arr d) none)) (hb : b ≤ len) (ha : a < b) (hl : len ≤ d.size) (hs : d.size < 2 ^ 40) :
    Res (callI tab 97 [.sl id 0 len lo ex 1, .int .i64 a, .int .i64 b] H) fun v H' => v = .bool (Sort.partialInsertionSort ltB d a b).2 ∧ Wr H H' id (.cells (tB.arr (Sort.partialInsertionSort ltB d a b).1) none) := by
  refine .hide fun Q hQ => .enter tab_134 (by simp [AF134]) (.inl rfl) ?_
  simp -implicitDefEqProofs (disch := first | omega | with_unfolding_all exact eqR (Eq.refl _)) [nums, -getElem!_pos, -Int.natCast_add, -Int.natCast_mul, -Int.natCast_ediv, AF134]
  refine l134_18 (len := len) (lo := lo) (ex := ex) (a := a) (b := b) H 5 (a + 1) _ _ d (Nat.le_refl _) ?_ ?_ ?_ ?_ ?_ hid hd hb (by omega) (by omega) hl hs fun H' hw => ?_
  any_goals (first | (simp; done) | skip)
  obtain ⟨H2, e, w⟩ := hw.toFx.wrapA (H := H) (v := .bool _) rfl
  rw [e]
  exact .mk (hQ _ _ ⟨rfl, w⟩)
end
end Go.Mach.Ytl
set_option linter.unusedSimpArgs false
set_option linter.unusedVariables false
set_option maxRecDepth 100000
namespace Go.Mach.Ytl
open Go.Mach
section
variable {g id len lo : Nat} {ex : Bool} {c : Mo → Mo → Int} {s : List Jtm} {k : KF} {Q : AV → Heap → Prop}
def PqM (id len lo : Nat) (ex : Bool) (c : Mo → Mo → Int) (g : Nat) (n : Nat) : Prop := ∀ (H0 : Heap) (Q : AV → Heap → Prop) (a b limit : Nat) (wb wp : Bool) (σ : Sig) (H : Heap) (d : Array Mo), b - a ≤ n → σ 0 = .sl id 0 len lo ex 8 → σ 1 = .int .i64 (a : Nat) → σ 2 = .int .i64 (b : Nat) → σ 3 = .int .i64 (limit : Nat) → σ 4 = .fn g [] [] → σ 10 = .bool wb → σ 11 = .bool wp →
    id < H.next → H.obj id = (.cells (tM.arr d) none) → a ≤ b → b ≤ len → limit < 2 ^ 40 → len < 65536 → len ≤ d.size → d.size < 2 ^ 40 → Sort.Below (ltc c) a b d → (∀ H' d', Sort.PermIn a b d d' → Sort.SortedIn (ltc c) a b d' → Wr H H' id (.cells (tM.arr d') none) → Res (some (wrapA H0 (.tup []) H')) Q) →
    Res (li (callI tab) L100_6 [.inBlock 0] (fink [] false H0) σ H) Q
theorem callq_M (hc : CmpM g c) {m : Nat} (ih : PqM id len lo ex c g m) {a b limit : Nat} {H : Heap} {d : Array Mo} (hm : b - a ≤ m) (hid : id < H.next) (hd : H.obj id = (.cells (tM.arr d) none)) (ha : a ≤ b) (hb : b ≤ len) (hlim : limit < 2 ^ 40) (hlen : len < 65536) (hl : len ≤ d.size) (hs : d.size < 2 ^ 40) (hB : Sort.Below (ltc c) a b d) :
    Res (callI tab 58 [.sl id 0 len lo ex 8, .int .i64 a, .int .i64 b, .int .i64 limit, .fn g [] []] H) fun v H' => v = .tup [] ∧ ∃ d', Sort.PermIn a b d d' ∧ Sort.SortedIn (ltc c) a b d' ∧ Wr H H' id (.cells (tM.arr d') none) := by
  refine .hide fun Q hQ => .enter tab_100 (by simp [AF100]) (.inl rfl) ?_
  simp -implicitDefEqProofs (disch := first | omega | with_unfolding_all exact eqR (Eq.refl _)) [nums, -getElem!_pos, -Int.natCast_add, -Int.natCast_mul, -Int.natCast_ediv, AF100]
  refine ih H Q a b limit true true _ _ d hm ?_ ?_ ?_ ?_ ?_ ?_ ?_ hid hd ha hb hlim hlen hl hs hB fun H' d' hp hsd hw => ?_
  any_goals (first | (simp; done) | skip)
  obtain ⟨H2, e, w⟩ := hw.toFx.wrapA (H := H) (v := .tup []) rfl
  rw [e]
  exact .mk (hQ _ _ ⟨rfl, d', hp, hsd, w⟩)
theorem s100_0 (hc : CmpM g c) (hS : Sort.SWO (ltc c)) {m : Nat} (ih : PqM id len lo ex c g m) {H0 : Heap} {a b limit p : Nat} {wb wp : Bool} {σ : Sig} {H : Heap} {d : Array Mo} : σ 0 = .sl id 0 len lo ex 8 → σ 1 = .int .i64 (a : Nat) → σ 2 = .int .i64 (b : Nat) → σ 3 = .int .i64 (limit : Nat) → σ 4 = .fn g [] [] → σ 10 = .bool wb → σ 11 = .bool wp → σ 12 = .int .i64 ((b - a) : Nat) → σ 13 = .int .i64 (p : Nat) →
    id < H.next → H.obj id = (.cells (tM.arr d) none) → a ≤ b → b ≤ len → limit < 2 ^ 40 → len < 65536 → len ≤ d.size → d.size < 2 ^ 40 → Sort.Below (ltc c) a b d → 12 < b - a → b - a ≤ m + 1 → a ≤ p → p < b → (∀ H' d', Sort.PermIn a b d d' → Sort.SortedIn (ltc c) a b d' → Wr H H' id (.cells (tM.arr d') none) → Res (some (wrapA H0 (.tup []) H')) Q) →
    Res (gi (callI tab) S100_0 [.inBlock 1, .inLoop L100_6, .inBlock 0] (fink [] false H0) σ H) Q := by
  intro h0 h1 h2 h3 h4 h10 h11 h12 h13 hid hd ha hb hlim hlen hl hs hB hbig hm hp1 hp2 hfin
  have hpt := Sort.partition_holds (ltc c) hS d a b p hp1 hp2 (by omega)
  simp -implicitDefEqProofs (disch := first | omega | with_unfolding_all exact eqR (Eq.refl _)) [nums, -getElem!_pos, -Int.natCast_add, -Int.natCast_mul, -Int.natCast_ediv, S100_0, h0, h1, h2, h3, h4, h10, h11, h12, h13]
  refine .call (call_116 (len := len) (lo := lo) (ex := ex) hc hid hd hb (by omega) hp2 hl hs) fun e H1 ⟨he, hw⟩ => ?_
  subst he
  obtain ⟨g1, g2, g3, g4, g5, g6, g7⟩ := Sort.round_part hS (Sort.partition_holds (ltc c)) hp1 hp2 (by omega) hB (mid := (Sort.partition (ltc c) d a b p).1) (ap := (Sort.partition (ltc c) d a b p).2.1) (d4 := (Sort.partition (ltc c) d a b p).2.2) rfl
  clear hpt
  generalize (Sort.partition (ltc c) d a b p).1 = mid at *
  generalize (Sort.partition (ltc c) d a b p).2.1 = ap at *
  generalize (Sort.partition (ltc c) d a b p).2.2 = d4 at *
  have hid1 : id < H1.next := by rw [hw.nxt]; exact hid
  by_cases c1 : mid - a < b - mid
  · simp -implicitDefEqProofs (disch := first | omega | with_unfolding_all exact eqR (Eq.refl _)) [nums, -getElem!_pos, -Int.natCast_add, -Int.natCast_mul, -Int.natCast_ediv, h0, h1, h2, h3, h4, h10, h11, h12, h13]
    refine .call (callq_M hc ih (by omega) hid1 hw.at (by omega) (by omega) hlim hlen (by omega) (by omega) g4) fun e H2 ⟨he, L, k1, k2, hw2⟩ => ?_
    subst he
    obtain ⟨g8, g9⟩ := g6 L k1 k2
    have hsz : L.size = d.size := k1.1.trans g3
    simp -implicitDefEqProofs (disch := first | omega | with_unfolding_all exact eqR (Eq.refl _)) [nums, -getElem!_pos, -Int.natCast_add, -Int.natCast_mul, -Int.natCast_ediv, h0, h1, h2, h3, h4, h10, h11, h12, h13]
    refine ih H0 Q (mid + 1) b limit (decide ((b - a) / 8 ≤ mid - a)) ap _ _ L (by omega) ?_ ?_ ?_ ?_ ?_ ?_ ?_ (by rw [hw2.nxt]; exact hid1) hw2.at (by omega) hb hlim hlen (by omega) (by omega) g8 fun H' R r1 r2 hw3 => ?_
    any_goals (first | (simp [h0, h1, h2, h3, h4, h10, h11, h12, h13]; done) | skip)
    obtain ⟨g10, g11⟩ := g9 R r1 r2
    exact hfin H' R g10 g11 (hw.trans (hw2.trans hw3))
  · simp -implicitDefEqProofs (disch := first | omega | with_unfolding_all exact eqR (Eq.refl _)) [nums, -getElem!_pos, -Int.natCast_add, -Int.natCast_mul, -Int.natCast_ediv, h0, h1, h2, h3, h4, h10, h11, h12, h13]
    refine .call (callq_M hc ih (by omega) hid1 hw.at (by omega) (by omega) hlim hlen (by omega) (by omega) g5) fun e H2 ⟨he, L, k1, k2, hw2⟩ => ?_
    subst he
    obtain ⟨g8, g9⟩ := g7 L k1 k2
    have hsz : L.size = d.size := k1.1.trans g3
    simp -implicitDefEqProofs (disch := first | omega | with_unfolding_all exact eqR (Eq.refl _)) [nums, -getElem!_pos, -Int.natCast_add, -Int.natCast_mul, -Int.natCast_ediv, h0, h1, h2, h3, h4, h10, h11, h12, h13]
    refine ih H0 Q a mid limit (decide ((b - a) / 8 ≤ b - mid)) ap _ _ L (by omega) ?_ ?_ ?_ ?_ ?_ ?_ ?_ (by rw [hw2.nxt]; exact hid1) hw2.at (by omega) (by omega) hlim hlen (by omega) (by omega) g8 fun H' R r1 r2 hw3 => ?_
    any_goals (first | (simp [h0, h1, h2, h3, h4, h10, h11, h12, h13]; done) | skip)
    obtain ⟨g10, g11⟩ := g9 R r1 r2
    exact hfin H' R g10 g11 (hw.trans (hw2.trans hw3))
theorem s100_1 (hc : CmpM g c) (hS : Sort.SWO (ltc c)) {m : Nat} (ih : PqM id len lo ex c g m) {H0 : Heap} {a b limit p : Nat} {wb wp : Bool} {σ : Sig} {H : Heap} {d : Array Mo} : σ 0 = .sl id 0 len lo ex 8 → σ 1 = .int .i64 (a : Nat) → σ 2 = .int .i64 (b : Nat) → σ 3 = .int .i64 (limit : Nat) → σ 4 = .fn g [] [] → σ 10 = .bool wb → σ 11 = .bool wp → σ 12 = .int .i64 ((b - a) : Nat) → σ 13 = .int .i64 (p : Nat) →
    id < H.next → H.obj id = (.cells (tM.arr d) none) → a ≤ b → b ≤ len → limit < 2 ^ 40 → len < 65536 → len ≤ d.size → d.size < 2 ^ 40 → Sort.Below (ltc c) a b d → 12 < b - a → b - a ≤ m + 1 → a ≤ p → p < b → (∀ H' d', Sort.PermIn a b d d' → Sort.SortedIn (ltc c) a b d' → Wr H H' id (.cells (tM.arr d') none) → Res (some (wrapA H0 (.tup []) H')) Q) →
    Res (gi (callI tab) S100_1 [.inBlock 1, .inLoop L100_6, .inBlock 0] (fink [] false H0) σ H) Q := by
  intro h0 h1 h2 h3 h4 h10 h11 h12 h13 hid hd ha hb hlim hlen hl hs hB hbig hm hp1 hp2 hfin
  by_cases c1 : 0 < a
  · by_cases c2 : c d[a - 1]! d[p]! < 0
    · simp -implicitDefEqProofs (disch := first | omega | with_unfolding_all exact eqR (Eq.refl _)) [nums, -getElem!_pos, -Int.natCast_add, -Int.natCast_mul, -Int.natCast_ediv, S100_1, h0, h1, h2, h3, h4, h10, h11, h12, h13, hd, hc _ _, loadM, storeM, storeM2]
      refine s100_0 (len := len) (lo := lo) (ex := ex) hc hS ih (wb := wb) (wp := wp) (limit := limit) ?_ ?_ ?_ ?_ ?_ ?_ ?_ ?_ ?_ hid hd ha hb hlim hlen hl hs hB hbig hm hp1 hp2 hfin
      all_goals simp [h0, h1, h2, h3, h4, h10, h11, h12, h13]
    · have hnl : (ltc c) d[a - 1]! d[p]! = false := by simp [ltc, c2]
      obtain ⟨g1, g2, g3, g4, g5⟩ := Sort.round_eq hS (Sort.partitionEqual_holds (ltc c)) (mid := (Sort.partitionEqual (ltc c) d a b p).1) (d4 := (Sort.partitionEqual (ltc c) d a b p).2) c1 hp1 hp2 (by omega) hB hnl rfl
      simp -implicitDefEqProofs (disch := first | omega | with_unfolding_all exact eqR (Eq.refl _)) [nums, -getElem!_pos, -Int.natCast_add, -Int.natCast_mul, -Int.natCast_ediv, S100_1, h0, h1, h2, h3, h4, h10, h11, h12, h13, hd, hc _ _, loadM, storeM, storeM2]
      refine .call (call_115 (len := len) (lo := lo) (ex := ex) hc hid hd hb (by omega) hp2 hl hs) fun e H1 ⟨he, hw⟩ => ?_
      subst he
      generalize (Sort.partitionEqual (ltc c) d a b p).1 = mid at *
      generalize (Sort.partitionEqual (ltc c) d a b p).2 = d4 at *
      simp -implicitDefEqProofs (disch := first | omega | with_unfolding_all exact eqR (Eq.refl _)) [nums, -getElem!_pos, -Int.natCast_add, -Int.natCast_mul, -Int.natCast_ediv, h0, h1, h2, h3, h4, h10, h11, h12, h13]
      refine ih H0 Q mid b limit wb wp _ _ d4 (by omega) ?_ ?_ ?_ ?_ ?_ ?_ ?_ (by rw [hw.nxt]; exact hid) hw.at g2 hb hlim hlen (by omega) (by omega) g4 fun H' R r1 r2 hw3 => ?_
      any_goals (first | (simp [h0, h1, h2, h3, h4, h10, h11, h12, h13]; done) | skip)
      obtain ⟨g10, g11⟩ := g5 R r1 r2
      exact hfin H' R g10 g11 (hw.trans hw3)
  · simp -implicitDefEqProofs (disch := first | omega | with_unfolding_all exact eqR (Eq.refl _)) [nums, -getElem!_pos, -Int.natCast_add, -Int.natCast_mul, -Int.natCast_ediv, S100_1, h0, h1, h2, h3, h4, h10, h11, h12, h13, hd, hc _ _, loadM, storeM, storeM2]
    refine s100_0 (len := len) (lo := lo) (ex := ex) hc hS ih (wb := wb) (wp := wp) (limit := limit) ?_ ?_ ?_ ?_ ?_ ?_ ?_ ?_ ?_ hid hd ha hb hlim hlen hl hs hB hbig hm hp1 hp2 hfin
    all_goals simp [h0, h1, h2, h3, h4, h10, h11, h12, h13]
theorem s100_2 (hc : CmpM g c) (hS : Sort.SWO (ltc c)) {m : Nat} (ih : PqM id len lo ex c g m) {H0 : Heap} {a b limit p : Nat} {wb wp : Bool} {hint : Int} {σ : Sig} {H : Heap} {d : Array Mo} : σ 0 = .sl id 0 len lo ex 8 → σ 1 = .int .i64 (a : Nat) → σ 2 = .int .i64 (b : Nat) → σ 3 = .int .i64 (limit : Nat) → σ 4 = .fn g [] [] → σ 10 = .bool wb → σ 11 = .bool wp → σ 12 = .int .i64 ((b - a) : Nat) → σ 13 = .int .i64 (p : Nat) → σ 14 = .int .i64 hint →
    id < H.next → H.obj id = (.cells (tM.arr d) none) → a ≤ b → b ≤ len → limit < 2 ^ 40 → len < 65536 → len ≤ d.size → d.size < 2 ^ 40 → Sort.Below (ltc c) a b d → 12 < b - a → b - a ≤ m + 1 → a ≤ p → p < b → (∀ H' d', Sort.PermIn a b d d' → Sort.SortedIn (ltc c) a b d' → Wr H H' id (.cells (tM.arr d') none) → Res (some (wrapA H0 (.tup []) H')) Q) →
    Res (gi (callI tab) S100_2 [.inBlock 1, .inLoop L100_6, .inBlock 0] (fink [] false H0) σ H) Q := by
  intro h0 h1 h2 h3 h4 h10 h11 h12 h13 h14 hid hd ha hb hlim hlen hl hs hB hbig hm hp1 hp2 hfin
  by_cases c1 : wb = true ∧ wp = true ∧ hint = 1
  · obtain ⟨rfl, rfl, rfl⟩ := c1
    simp -implicitDefEqProofs (disch := first | omega | with_unfolding_all exact eqR (Eq.refl _)) [nums, -getElem!_pos, -Int.natCast_add, -Int.natCast_mul, -Int.natCast_ediv, S100_2, h0, h1, h2, h3, h4, h10, h11, h12, h13, h14]
    refine .call (call_114 (len := len) (lo := lo) (ex := ex) hc hid hd hb (by omega) hl hs) fun e H1 ⟨he, hw⟩ => ?_
    subst he
    obtain ⟨q1, q2⟩ := Sort.partialInsertionSort_holds hS d a b (by omega) (by omega) hB
    generalize (Sort.partialInsertionSort (ltc c) d a b).1 = d1 at *
    generalize (Sort.partialInsertionSort (ltc c) d a b).2 = bo at *
    cases bo with
    | true =>
      simp -implicitDefEqProofs (disch := first | omega | with_unfolding_all exact eqR (Eq.refl _)) [nums, -getElem!_pos, -Int.natCast_add, -Int.natCast_mul, -Int.natCast_ediv, h0, h1, h2, h3, h4, h10, h11, h12, h13, h14]
      exact hfin H1 d1 q1 (q2 rfl) hw
    | false =>
      simp -implicitDefEqProofs (disch := first | omega | with_unfolding_all exact eqR (Eq.refl _)) [nums, -getElem!_pos, -Int.natCast_add, -Int.natCast_mul, -Int.natCast_ediv, h0, h1, h2, h3, h4, h10, h11, h12, h13, h14]
      refine s100_1 (len := len) (lo := lo) (ex := ex) (d := d1) hc hS ih (wb := true) (wp := true) (limit := limit) ?_ ?_ ?_ ?_ ?_ ?_ ?_ ?_ ?_ (by rw [hw.nxt]; exact hid) hw.at ha hb hlim hlen (by rw [q1.1]; exact hl) (by rw [q1.1]; exact hs) (hB.perm (by omega) q1) hbig hm hp1 hp2 fun H' R r1 r2 hw3 => hfin H' R (Sort.permIn_trans _ _ _ _ _ q1 r1) r2 (hw.trans hw3)
      all_goals simp [h0, h1, h2, h3, h4, h10, h11, h12, h13, h14]
  · cases wb with
    | false =>
      simp -implicitDefEqProofs (disch := first | omega | with_unfolding_all exact eqR (Eq.refl _)) [nums, -getElem!_pos, -Int.natCast_add, -Int.natCast_mul, -Int.natCast_ediv, S100_2, h0, h1, h2, h3, h4, h10, h11, h12, h13, h14]
      refine s100_1 (len := len) (lo := lo) (ex := ex) hc hS ih (wb := false) (wp := wp) (limit := limit) ?_ ?_ ?_ ?_ ?_ ?_ ?_ ?_ ?_ hid hd ha hb hlim hlen hl hs hB hbig hm hp1 hp2 hfin
      all_goals simp [h0, h1, h2, h3, h4, h10, h11, h12, h13, h14]
    | true =>
      cases wp with
      | false =>
        simp -implicitDefEqProofs (disch := first | omega | with_unfolding_all exact eqR (Eq.refl _)) [nums, -getElem!_pos, -Int.natCast_add, -Int.natCast_mul, -Int.natCast_ediv, S100_2, h0, h1, h2, h3, h4, h10, h11, h12, h13, h14]
        refine s100_1 (len := len) (lo := lo) (ex := ex) hc hS ih (wb := true) (wp := false) (limit := limit) ?_ ?_ ?_ ?_ ?_ ?_ ?_ ?_ ?_ hid hd ha hb hlim hlen hl hs hB hbig hm hp1 hp2 hfin
        all_goals simp [h0, h1, h2, h3, h4, h10, h11, h12, h13, h14]
      | true =>
        have c2 : hint ≠ 1 := fun h => c1 ⟨rfl, rfl, h⟩
        simp -implicitDefEqProofs (disch := first | omega | with_unfolding_all exact eqR (Eq.refl _)) [nums, -getElem!_pos, -Int.natCast_add, -Int.natCast_mul, -Int.natCast_ediv, S100_2, h0, h1, h2, h3, h4, h10, h11, h12, h13, h14]
        refine s100_1 (len := len) (lo := lo) (ex := ex) hc hS ih (wb := true) (wp := true) (limit := limit) ?_ ?_ ?_ ?_ ?_ ?_ ?_ ?_ ?_ hid hd ha hb hlim hlen hl hs hB hbig hm hp1 hp2 hfin
        all_goals simp [h0, h1, h2, h3, h4, h10, h11, h12, h13, h14]
theorem s100_3 (hc : CmpM g c) (hS : Sort.SWO (ltc c)) {m : Nat} (ih : PqM id len lo ex c g m) {H0 : Heap} {a b limit : Nat} {wb wp : Bool} {σ : Sig} {H : Heap} {d : Array Mo} : σ 0 = .sl id 0 len lo ex 8 → σ 1 = .int .i64 (a : Nat) → σ 2 = .int .i64 (b : Nat) → σ 3 = .int .i64 (limit : Nat) → σ 4 = .fn g [] [] → σ 10 = .bool wb → σ 11 = .bool wp → σ 12 = .int .i64 ((b - a) : Nat) →
    id < H.next → H.obj id = (.cells (tM.arr d) none) → a ≤ b → b ≤ len → limit < 2 ^ 40 → len < 65536 → len ≤ d.size → d.size < 2 ^ 40 → Sort.Below (ltc c) a b d → 12 < b - a → b - a ≤ m + 1 → (∀ H' d', Sort.PermIn a b d d' → Sort.SortedIn (ltc c) a b d' → Wr H H' id (.cells (tM.arr d') none) → Res (some (wrapA H0 (.tup []) H')) Q) →
    Res (gi (callI tab) S100_3 [.inBlock 1, .inLoop L100_6, .inBlock 0] (fink [] false H0) σ H) Q := by
  intro h0 h1 h2 h3 h4 h10 h11 h12 hid hd ha hb hlim hlen hl hs hB hbig hm hfin
  simp -implicitDefEqProofs (disch := first | omega | with_unfolding_all exact eqR (Eq.refl _)) [nums, -getElem!_pos, -Int.natCast_add, -Int.natCast_mul, -Int.natCast_ediv, S100_3, h0, h1, h2, h3, h4, h10, h11, h12]
  refine .call (call_112 (len := len) (lo := lo) (ex := ex) hc hid hd hb hbig hl hs) fun e H1 ⟨hH, p, hint, he, hp1, hp2⟩ => ?_
  subst he hH
  by_cases c1 : hint = 2
  · subst c1
    simp -implicitDefEqProofs (disch := first | omega | with_unfolding_all exact eqR (Eq.refl _)) [nums, -getElem!_pos, -Int.natCast_add, -Int.natCast_mul, -Int.natCast_ediv, h0, h1, h2, h3, h4, h10, h11, h12]
    refine .call (call_113 (len := len) (lo := lo) (ex := ex) hid hd hb (by omega) hl hs) fun e H1 ⟨he, hw⟩ => ?_
    subst he
    have q1 := Sort.reverseRange_holds d a b ha (by omega)
    generalize Sort.reverseRange d a b = d1 at *
    simp -implicitDefEqProofs (disch := first | omega | with_unfolding_all exact eqR (Eq.refl _)) [nums, -getElem!_pos, -Int.natCast_add, -Int.natCast_mul, -Int.natCast_ediv, h0, h1, h2, h3, h4, h10, h11, h12]
    refine s100_2 (len := len) (lo := lo) (ex := ex) (d := d1) hc hS ih (wb := wb) (wp := wp) (limit := limit) (p := b - 1 - (p - a)) (hint := 1) ?_ ?_ ?_ ?_ ?_ ?_ ?_ ?_ ?_ ?_ (by rw [hw.nxt]; exact hid) hw.at ha hb hlim hlen (by rw [q1.1]; exact hl) (by rw [q1.1]; exact hs) (hB.perm (by omega) q1) hbig hm (by omega) (by omega) fun H' R r1 r2 hw3 => hfin H' R (Sort.permIn_trans _ _ _ _ _ q1 r1) r2 (hw.trans hw3)
    all_goals simp [h0, h1, h2, h3, h4, h10, h11, h12]
  · simp -implicitDefEqProofs (disch := first | omega | with_unfolding_all exact eqR (Eq.refl _)) [nums, -getElem!_pos, -Int.natCast_add, -Int.natCast_mul, -Int.natCast_ediv, h0, h1, h2, h3, h4, h10, h11, h12]
    refine s100_2 (len := len) (lo := lo) (ex := ex) hc hS ih (wb := wb) (wp := wp) (limit := limit) (p := p) (hint := hint) ?_ ?_ ?_ ?_ ?_ ?_ ?_ ?_ ?_ ?_ hid hd ha hb hlim hlen hl hs hB hbig hm hp1 hp2 hfin
    all_goals simp [h0, h1, h2, h3, h4, h10, h11, h12]
theorem s100_4 (hc : CmpM g c) (hS : Sort.SWO (ltc c)) {m : Nat} (ih : PqM id len lo ex c g m) {H0 : Heap} {a b limit : Nat} {wb wp : Bool} {σ : Sig} {H : Heap} {d : Array Mo} : σ 0 = .sl id 0 len lo ex 8 → σ 1 = .int .i64 (a : Nat) → σ 2 = .int .i64 (b : Nat) → σ 3 = .int .i64 (limit : Nat) → σ 4 = .fn g [] [] → σ 10 = .bool wb → σ 11 = .bool wp → σ 12 = .int .i64 ((b - a) : Nat) →
    id < H.next → H.obj id = (.cells (tM.arr d) none) → a ≤ b → b ≤ len → limit < 2 ^ 40 → len < 65536 → len ≤ d.size → d.size < 2 ^ 40 → Sort.Below (ltc c) a b d → 12 < b - a → b - a ≤ m + 1 → limit ≠ 0 → (∀ H' d', Sort.PermIn a b d d' → Sort.SortedIn (ltc c) a b d' → Wr H H' id (.cells (tM.arr d') none) → Res (some (wrapA H0 (.tup []) H')) Q) →
    Res (gi (callI tab) S100_4 [.inBlock 1, .inLoop L100_6, .inBlock 0] (fink [] false H0) σ H) Q := by
  intro h0 h1 h2 h3 h4 h10 h11 h12 hid hd ha hb hlim hlen hl hs hB hbig hm hz hfin
  cases wb with
  | true =>
    simp -implicitDefEqProofs (disch := first | omega | with_unfolding_all exact eqR (Eq.refl _)) [nums, -getElem!_pos, -Int.natCast_add, -Int.natCast_mul, -Int.natCast_ediv, S100_4, h0, h1, h2, h3, h4, h10, h11, h12]
    refine s100_3 (len := len) (lo := lo) (ex := ex) hc hS ih (wb := true) (wp := wp) (limit := limit) ?_ ?_ ?_ ?_ ?_ ?_ ?_ ?_ hid hd ha hb hlim hlen hl hs hB hbig hm hfin
    all_goals simp [h0, h1, h2, h3, h4, h10, h11, h12]
  | false =>
    simp -implicitDefEqProofs (disch := first | omega | with_unfolding_all exact eqR (Eq.refl _)) [nums, -getElem!_pos, -Int.natCast_add, -Int.natCast_mul, -Int.natCast_ediv, S100_4, h0, h1, h2, h3, h4, h10, h11, h12]
    refine .call (call_111 (len := len) (lo := lo) (ex := ex) hid hd hb (by omega) (by omega) hl hs) fun e H1 ⟨he, d1, q1, hw⟩ => ?_
    subst he
    simp -implicitDefEqProofs (disch := first | omega | with_unfolding_all exact eqR (Eq.refl _)) [nums, -getElem!_pos, -Int.natCast_add, -Int.natCast_mul, -Int.natCast_ediv, h0, h1, h2, h3, h4, h10, h11, h12]
    refine s100_3 (len := len) (lo := lo) (ex := ex) (d := d1) hc hS ih (wb := false) (wp := wp) (limit := limit - 1) ?_ ?_ ?_ ?_ ?_ ?_ ?_ ?_ (by rw [hw.nxt]; exact hid) hw.at ha hb (by omega) hlen (by rw [q1.1]; exact hl) (by rw [q1.1]; exact hs) (hB.perm (by omega) q1) hbig hm fun H' R r1 r2 hw3 => hfin H' R (Sort.permIn_trans _ _ _ _ _ q1 r1) r2 (hw.trans hw3)
    all_goals simp [h0, h1, h2, h3, h4, h10, h11, h12]
theorem pq_M (hc : CmpM g c) (hS : Sort.SWO (ltc c)) (m : Nat) : PqM id len lo ex c g m := by
  induction m with
  | zero =>
    intro H0 Q a b limit wb wp σ H d hm h0 h1 h2 h3 h4 h10 h11 hid hd ha hb hlim hlen hl hs hB hfin
    obtain ⟨il, hil⟩ : ∃ x, x = Jtm.inLoop L100_6 := ⟨_, rfl⟩; rw [li_eq' il hil]
    simp -implicitDefEqProofs (disch := first | omega | with_unfolding_all exact eqR (Eq.refl _)) [nums, -getElem!_pos, -Int.natCast_add, -Int.natCast_mul, -Int.natCast_ediv, L100_6, h0, h1, h2, h3, h4, h10, h11]
    refine .call (call_109 (len := len) (lo := lo) (ex := ex) hc hid hd hb ha hl hs) fun e H1 ⟨he, hw⟩ => ?_
    subst he
    obtain ⟨q1, q2⟩ := Sort.insertionSort_holds hS d a b ha (by omega)
    simp -implicitDefEqProofs (disch := first | omega | with_unfolding_all exact eqR (Eq.refl _)) [nums, -getElem!_pos, -Int.natCast_add, -Int.natCast_mul, -Int.natCast_ediv, h0, h1, h2, h3, h4, h10, h11]
    subst hil
    try simp -implicitDefEqProofs (disch := first | omega | with_unfolding_all exact eqR (Eq.refl _)) [nums, -getElem!_pos, -Int.natCast_add, -Int.natCast_mul, -Int.natCast_ediv]
    exact hfin _ _ q1 q2 hw
  | succ m ih =>
    intro H0 Q a b limit wb wp σ H d hm h0 h1 h2 h3 h4 h10 h11 hid hd ha hb hlim hlen hl hs hB hfin
    by_cases c1 : b - a ≤ 12
    · obtain ⟨il, hil⟩ : ∃ x, x = Jtm.inLoop L100_6 := ⟨_, rfl⟩; rw [li_eq' il hil]
      simp -implicitDefEqProofs (disch := first | omega | with_unfolding_all exact eqR (Eq.refl _)) [nums, -getElem!_pos, -Int.natCast_add, -Int.natCast_mul, -Int.natCast_ediv, L100_6, h0, h1, h2, h3, h4, h10, h11]
      refine .call (call_109 (len := len) (lo := lo) (ex := ex) hc hid hd hb ha hl hs) fun e H1 ⟨he, hw⟩ => ?_
      subst he
      obtain ⟨q1, q2⟩ := Sort.insertionSort_holds hS d a b ha (by omega)
      simp -implicitDefEqProofs (disch := first | omega | with_unfolding_all exact eqR (Eq.refl _)) [nums, -getElem!_pos, -Int.natCast_add, -Int.natCast_mul, -Int.natCast_ediv, h0, h1, h2, h3, h4, h10, h11]
      subst hil
      try simp -implicitDefEqProofs (disch := first | omega | with_unfolding_all exact eqR (Eq.refl _)) [nums, -getElem!_pos, -Int.natCast_add, -Int.natCast_mul, -Int.natCast_ediv]
      exact hfin _ _ q1 q2 hw
    · by_cases c2 : limit = 0
      · subst c2
        obtain ⟨il, hil⟩ : ∃ x, x = Jtm.inLoop L100_6 := ⟨_, rfl⟩; rw [li_eq' il hil]
        simp -implicitDefEqProofs (disch := first | omega | with_unfolding_all exact eqR (Eq.refl _)) [nums, -getElem!_pos, -Int.natCast_add, -Int.natCast_mul, -Int.natCast_ediv, L100_6, S100_5, h0, h1, h2, h3, h4, h10, h11]
        refine .call (call_110 (len := len) (lo := lo) (ex := ex) hc hid hd hb (by omega) hl hs) fun e H1 ⟨he, hw⟩ => ?_
        subst he
        obtain ⟨q1, q2⟩ := Sort.heapSort_holds hS d a b ha (by omega)
        simp -implicitDefEqProofs (disch := first | omega | with_unfolding_all exact eqR (Eq.refl _)) [nums, -getElem!_pos, -Int.natCast_add, -Int.natCast_mul, -Int.natCast_ediv, h0, h1, h2, h3, h4, h10, h11]
        subst hil
        try simp -implicitDefEqProofs (disch := first | omega | with_unfolding_all exact eqR (Eq.refl _)) [nums, -getElem!_pos, -Int.natCast_add, -Int.natCast_mul, -Int.natCast_ediv]
        exact hfin _ _ q1 q2 hw
      · obtain ⟨il, hil⟩ : ∃ x, x = Jtm.inLoop L100_6 := ⟨_, rfl⟩; rw [li_eq' il hil]
        simp -implicitDefEqProofs (disch := first | omega | with_unfolding_all exact eqR (Eq.refl _)) [nums, -getElem!_pos, -Int.natCast_add, -Int.natCast_mul, -Int.natCast_ediv, L100_6, S100_5, h0, h1, h2, h3, h4, h10, h11]
        subst hil
        refine s100_4 (len := len) (lo := lo) (ex := ex) hc hS ih (wb := wb) (wp := wp) (limit := limit) ?_ ?_ ?_ ?_ ?_ ?_ ?_ ?_ hid hd ha hb hlim hlen hl hs hB (by omega) hm c2 hfin
        all_goals simp [h0, h1, h2, h3, h4, h10, h11]
theorem call_70 (hc : CmpM g c) (hS : Sort.SWO (ltc c)) {H : Heap} {d : Array Mo} (hid : id < H.next) (hd : H.obj id = (.cells (tM.arr d) none)) (hlen : len < 65536) (hl : len ≤ d.size) (hs : d.size < 2 ^ 40) :
    Res (callI tab 32 [.sl id 0 len lo ex 8, .fn g [] []] H) fun v H' => v = .tup [] ∧ ∃ d', Sort.PermIn 0 len d d' ∧ Sort.SortedIn (ltc c) 0 len d' ∧ Wr H H' id (.cells (tM.arr d') none) := by
  refine .hide fun Q hQ => .enter tab_70 (by simp [AF70]) (.inl rfl) ?_
  have e0 : IntKind.u64.wrap (len : Int) = len := wrap64 (by omega)
  have b : Sort.bitsLen len ≤ 60 := (Sort.bitsLen_le_iff len 60).2 (by omega)
  simp -implicitDefEqProofs (disch := first | omega | with_unfolding_all exact eqR (Eq.refl _)) [nums, -getElem!_pos, -Int.natCast_add, -Int.natCast_mul, -Int.natCast_ediv, AF70, e0, call_101 hlen]
  refine .call (callq_M (a := 0) (b := len) (limit := Sort.bitsLen len) (len := len) (lo := lo) (ex := ex) (H := H.begin) (d := d) hc (pq_M hc hS len) (by omega) hid hd (by omega) (Nat.le_refl _) (by omega) hlen hl hs (.inl rfl)) fun e H1 ⟨he, d', q1, q2, hw⟩ => ?_
  subst he
  simp -implicitDefEqProofs (disch := first | omega | with_unfolding_all exact eqR (Eq.refl _)) [nums, -getElem!_pos, -Int.natCast_add, -Int.natCast_mul, -Int.natCast_ediv, frz_t0]
  obtain ⟨H2, e, w⟩ := hw.toFx.wrapA (H := H) (v := .tup []) rfl
  rw [e]
  exact .mk (hQ _ _ ⟨rfl, d', q1, q2, w⟩)
def PqB (id len lo : Nat) (ex : Bool) (n : Nat) : Prop := ∀ (H0 : Heap) (Q : AV → Heap → Prop) (a b limit : Nat) (wb wp : Bool) (σ : Sig) (H : Heap) (d : Array Int), b - a ≤ n → σ 0 = .sl id 0 len lo ex 1 → σ 1 = .int .i64 (a : Nat) → σ 2 = .int .i64 (b : Nat) → σ 3 = .int .i64 (limit : Nat) → σ 8 = .bool wb → σ 9 = .bool wp →
    id < H.next → H.obj id = (.cells (tB.arr d) none) → a ≤ b → b ≤ len → limit < 2 ^ 40 → len < 65536 → len ≤ d.size → d.size < 2 ^ 40 → Sort.Below ltB a b d → (∀ H' d', Sort.PermIn a b d d' → Sort.SortedIn ltB a b d' → Wr H H' id (.cells (tB.arr d') none) → Res (some (wrapA H0 (.tup []) H')) Q) →
    Res (li (callI tab) L119_6 [.inBlock 0] (fink [] false H0) σ H) Q
theorem callq_B {m : Nat} (ih : PqB id len lo ex m) {a b limit : Nat} {H : Heap} {d : Array Int} (hm : b - a ≤ m) (hid : id < H.next) (hd : H.obj id = (.cells (tB.arr d) none)) (ha : a ≤ b) (hb : b ≤ len) (hlim : limit < 2 ^ 40) (hlen : len < 65536) (hl : len ≤ d.size) (hs : d.size < 2 ^ 40) (hB : Sort.Below ltB a b d) :
    Res (callI tab 85 [.sl id 0 len lo ex 1, .int .i64 a, .int .i64 b, .int .i64 limit] H) fun v H' => v = .tup [] ∧ ∃ d', Sort.PermIn a b d d' ∧ Sort.SortedIn ltB a b d' ∧ Wr H H' id (.cells (tB.arr d') none) := by
  refine .hide fun Q hQ => .enter tab_119 (by simp [AF119]) (.inl rfl) ?_
  simp -implicitDefEqProofs (disch := first | omega | with_unfolding_all exact eqR (Eq.refl _)) [nums, -getElem!_pos, -Int.natCast_add, -Int.natCast_mul, -Int.natCast_ediv, AF119]
  refine ih H Q a b limit true true _ _ d hm ?_ ?_ ?_ ?_ ?_ ?_ hid hd ha hb hlim hlen hl hs hB fun H' d' hp hsd hw => ?_
  any_goals (first | (simp; done) | skip)
  obtain ⟨H2, e, w⟩ := hw.toFx.wrapA (H := H) (v := .tup []) rfl
  rw [e]
  exact .mk (hQ _ _ ⟨rfl, d', hp, hsd, w⟩)
theorem s119_0 (hS : Sort.SWO ltB) {m : Nat} (ih : PqB id len lo ex m) {H0 : Heap} {a b limit p : Nat} {wb wp : Bool} {σ : Sig} {H : Heap} {d : Array Int} : σ 0 = .sl id 0 len lo ex 1 → σ 1 = .int .i64 (a : Nat) → σ 2 = .int .i64 (b : Nat) → σ 3 = .int .i64 (limit : Nat) → σ 8 = .bool wb → σ 9 = .bool wp → σ 10 = .int .i64 ((b - a) : Nat) → σ 11 = .int .i64 (p : Nat) →
    id < H.next → H.obj id = (.cells (tB.arr d) none) → a ≤ b → b ≤ len → limit < 2 ^ 40 → len < 65536 → len ≤ d.size → d.size < 2 ^ 40 → Sort.Below ltB a b d → 12 < b - a → b - a ≤ m + 1 → a ≤ p → p < b → (∀ H' d', Sort.PermIn a b d d' → Sort.SortedIn ltB a b d' → Wr H H' id (.cells (tB.arr d') none) → Res (some (wrapA H0 (.tup []) H')) Q) →
    Res (gi (callI tab) S119_0 [.inBlock 1, .inLoop L119_6, .inBlock 0] (fink [] false H0) σ H) Q := by
  intro h0 h1 h2 h3 h10 h11 h12 h13 hid hd ha hb hlim hlen hl hs hB hbig hm hp1 hp2 hfin
  have hpt := Sort.partition_holds ltB hS d a b p hp1 hp2 (by omega)
  simp -implicitDefEqProofs (disch := first | omega | with_unfolding_all exact eqR (Eq.refl _)) [nums, -getElem!_pos, -Int.natCast_add, -Int.natCast_mul, -Int.natCast_ediv, S119_0, h0, h1, h2, h3, h10, h11, h12, h13]
  refine .call (call_137 (len := len) (lo := lo) (ex := ex) hid hd hb (by omega) hp2 hl hs) fun e H1 ⟨he, hw⟩ => ?_
  subst he
  obtain ⟨g1, g2, g3, g4, g5, g6, g7⟩ := Sort.round_part hS (Sort.partition_holds ltB) hp1 hp2 (by omega) hB (mid := (Sort.partition ltB d a b p).1) (ap := (Sort.partition ltB d a b p).2.1) (d4 := (Sort.partition ltB d a b p).2.2) rfl
  clear hpt
  generalize (Sort.partition ltB d a b p).1 = mid at *
  generalize (Sort.partition ltB d a b p).2.1 = ap at *
  generalize (Sort.partition ltB d a b p).2.2 = d4 at *
  have hid1 : id < H1.next := by rw [hw.nxt]; exact hid
  by_cases c1 : mid - a < b - mid
  · simp -implicitDefEqProofs (disch := first | omega | with_unfolding_all exact eqR (Eq.refl _)) [nums, -getElem!_pos, -Int.natCast_add, -Int.natCast_mul, -Int.natCast_ediv, h0, h1, h2, h3, h10, h11, h12, h13]
    refine .call (callq_B ih (by omega) hid1 hw.at (by omega) (by omega) hlim hlen (by omega) (by omega) g4) fun e H2 ⟨he, L, k1, k2, hw2⟩ => ?_
    subst he
    obtain ⟨g8, g9⟩ := g6 L k1 k2
    have hsz : L.size = d.size := k1.1.trans g3
    simp -implicitDefEqProofs (disch := first | omega | with_unfolding_all exact eqR (Eq.refl _)) [nums, -getElem!_pos, -Int.natCast_add, -Int.natCast_mul, -Int.natCast_ediv, h0, h1, h2, h3, h10, h11, h12, h13]
    refine ih H0 Q (mid + 1) b limit (decide ((b - a) / 8 ≤ mid - a)) ap _ _ L (by omega) ?_ ?_ ?_ ?_ ?_ ?_ (by rw [hw2.nxt]; exact hid1) hw2.at (by omega) hb hlim hlen (by omega) (by omega) g8 fun H' R r1 r2 hw3 => ?_
    any_goals (first | (simp [h0, h1, h2, h3, h10, h11, h12, h13]; done) | skip)
    obtain ⟨g10, g11⟩ := g9 R r1 r2
    exact hfin H' R g10 g11 (hw.trans (hw2.trans hw3))
  · simp -implicitDefEqProofs (disch := first | omega | with_unfolding_all exact eqR (Eq.refl _)) [nums, -getElem!_pos, -Int.natCast_add, -Int.natCast_mul, -Int.natCast_ediv, h0, h1, h2, h3, h10, h11, h12, h13]
    refine .call (callq_B ih (by omega) hid1 hw.at (by omega) (by omega) hlim hlen (by omega) (by omega) g5) fun e H2 ⟨he, L, k1, k2, hw2⟩ => ?_
    subst he
    obtain ⟨g8, g9⟩ := g7 L k1 k2
    have hsz : L.size = d.size := k1.1.trans g3
    simp -implicitDefEqProofs (disch := first | omega | with_unfolding_all exact eqR (Eq.refl _)) [nums, -getElem!_pos, -Int.natCast_add, -Int.natCast_mul, -Int.natCast_ediv, h0, h1, h2, h3, h10, h11, h12, h13]
    refine ih H0 Q a mid limit (decide ((b - a) / 8 ≤ b - mid)) ap _ _ L (by omega) ?_ ?_ ?_ ?_ ?_ ?_ (by rw [hw2.nxt]; exact hid1) hw2.at (by omega) (by omega) hlim hlen (by omega) (by omega) g8 fun H' R r1 r2 hw3 => ?_
    any_goals (first | (simp [h0, h1, h2, h3, h10, h11, h12, h13]; done) | skip)
    obtain ⟨g10, g11⟩ := g9 R r1 r2
    exact hfin H' R g10 g11 (hw.trans (hw2.trans hw3))
theorem s119_1 (hS : Sort.SWO ltB) {m : Nat} (ih : PqB id len lo ex m) {H0 : Heap} {a b limit p : Nat} {wb wp : Bool} {σ : Sig} {H : Heap} {d : Array Int} : σ 0 = .sl id 0 len lo ex 1 → σ 1 = .int .i64 (a : Nat) → σ 2 = .int .i64 (b : Nat) → σ 3 = .int .i64 (limit : Nat) → σ 8 = .bool wb → σ 9 = .bool wp → σ 10 = .int .i64 ((b - a) : Nat) → σ 11 = .int .i64 (p : Nat) →
    id < H.next → H.obj id = (.cells (tB.arr d) none) → a ≤ b → b ≤ len → limit < 2 ^ 40 → len < 65536 → len ≤ d.size → d.size < 2 ^ 40 → Sort.Below ltB a b d → 12 < b - a → b - a ≤ m + 1 → a ≤ p → p < b → (∀ H' d', Sort.PermIn a b d d' → Sort.SortedIn ltB a b d' → Wr H H' id (.cells (tB.arr d') none) → Res (some (wrapA H0 (.tup []) H')) Q) →
    Res (gi (callI tab) S119_1 [.inBlock 1, .inLoop L119_6, .inBlock 0] (fink [] false H0) σ H) Q := by
  intro h0 h1 h2 h3 h10 h11 h12 h13 hid hd ha hb hlim hlen hl hs hB hbig hm hp1 hp2 hfin
  by_cases c1 : 0 < a
  · by_cases c2 : d[a - 1]! < d[p]!
    · simp -implicitDefEqProofs (disch := first | omega | with_unfolding_all exact eqR (Eq.refl _)) [nums, -getElem!_pos, -Int.natCast_add, -Int.natCast_mul, -Int.natCast_ediv, S119_1, h0, h1, h2, h3, h10, h11, h12, h13, hd, call_135, loadB, storeB, storeB2]
      refine s119_0 (len := len) (lo := lo) (ex := ex) hS ih (wb := wb) (wp := wp) (limit := limit) ?_ ?_ ?_ ?_ ?_ ?_ ?_ ?_ hid hd ha hb hlim hlen hl hs hB hbig hm hp1 hp2 hfin
      all_goals simp [h0, h1, h2, h3, h10, h11, h12, h13]
    · have hnl : ltB d[a - 1]! d[p]! = false := by simp [ltB, c2]
      obtain ⟨g1, g2, g3, g4, g5⟩ := Sort.round_eq hS (Sort.partitionEqual_holds ltB) (mid := (Sort.partitionEqual ltB d a b p).1) (d4 := (Sort.partitionEqual ltB d a b p).2) c1 hp1 hp2 (by omega) hB hnl rfl
      simp -implicitDefEqProofs (disch := first | omega | with_unfolding_all exact eqR (Eq.refl _)) [nums, -getElem!_pos, -Int.natCast_add, -Int.natCast_mul, -Int.natCast_ediv, S119_1, h0, h1, h2, h3, h10, h11, h12, h13, hd, call_135, loadB, storeB, storeB2]
      refine .call (call_136 (len := len) (lo := lo) (ex := ex) hid hd hb (by omega) hp2 hl hs) fun e H1 ⟨he, hw⟩ => ?_
      subst he
      generalize (Sort.partitionEqual ltB d a b p).1 = mid at *
      generalize (Sort.partitionEqual ltB d a b p).2 = d4 at *
      simp -implicitDefEqProofs (disch := first | omega | with_unfolding_all exact eqR (Eq.refl _)) [nums, -getElem!_pos, -Int.natCast_add, -Int.natCast_mul, -Int.natCast_ediv, h0, h1, h2, h3, h10, h11, h12, h13]
      refine ih H0 Q mid b limit wb wp _ _ d4 (by omega) ?_ ?_ ?_ ?_ ?_ ?_ (by rw [hw.nxt]; exact hid) hw.at g2 hb hlim hlen (by omega) (by omega) g4 fun H' R r1 r2 hw3 => ?_
      any_goals (first | (simp [h0, h1, h2, h3, h10, h11, h12, h13]; done) | skip)
      obtain ⟨g10, g11⟩ := g5 R r1 r2
      exact hfin H' R g10 g11 (hw.trans hw3)
  · simp -implicitDefEqProofs (disch := first | omega | with_unfolding_all exact eqR (Eq.refl _)) [nums, -getElem!_pos, -Int.natCast_add, -Int.natCast_mul, -Int.natCast_ediv, S119_1, h0, h1, h2, h3, h10, h11, h12, h13, hd, call_135, loadB, storeB, storeB2]
    refine s119_0 (len := len) (lo := lo) (ex := ex) hS ih (wb := wb) (wp := wp) (limit := limit) ?_ ?_ ?_ ?_ ?_ ?_ ?_ ?_ hid hd ha hb hlim hlen hl hs hB hbig hm hp1 hp2 hfin
    all_goals simp [h0, h1, h2, h3, h10, h11, h12, h13]
theorem s119_2 (hS : Sort.SWO ltB) {m : Nat} (ih : PqB id len lo ex m) {H0 : Heap} {a b limit p : Nat} {wb wp : Bool} {hint : Int} {σ : Sig} {H : Heap} {d : Array Int} : σ 0 = .sl id 0 len lo ex 1 → σ 1 = .int .i64 (a : Nat) → σ 2 = .int .i64 (b : Nat) → σ 3 = .int .i64 (limit : Nat) → σ 8 = .bool wb → σ 9 = .bool wp → σ 10 = .int .i64 ((b - a) : Nat) → σ 11 = .int .i64 (p : Nat) → σ 12 = .int .i64 hint →
    id < H.next → H.obj id = (.cells (tB.arr d) none) → a ≤ b → b ≤ len → limit < 2 ^ 40 → len < 65536 → len ≤ d.size → d.size < 2 ^ 40 → Sort.Below ltB a b d → 12 < b - a → b - a ≤ m + 1 → a ≤ p → p < b → (∀ H' d', Sort.PermIn a b d d' → Sort.SortedIn ltB a b d' → Wr H H' id (.cells (tB.arr d') none) → Res (some (wrapA H0 (.tup []) H')) Q) →
    Res (gi (callI tab) S119_2 [.inBlock 1, .inLoop L119_6, .inBlock 0] (fink [] false H0) σ H) Q := by
  intro h0 h1 h2 h3 h10 h11 h12 h13 h14 hid hd ha hb hlim hlen hl hs hB hbig hm hp1 hp2 hfin
  by_cases c1 : wb = true ∧ wp = true ∧ hint = 1
  · obtain ⟨rfl, rfl, rfl⟩ := c1
    simp -implicitDefEqProofs (disch := first | omega | with_unfolding_all exact eqR (Eq.refl _)) [nums, -getElem!_pos, -Int.natCast_add, -Int.natCast_mul, -Int.natCast_ediv, S119_2, h0, h1, h2, h3, h10, h11, h12, h13, h14]
    refine .call (call_134 (len := len) (lo := lo) (ex := ex) hid hd hb (by omega) hl hs) fun e H1 ⟨he, hw⟩ => ?_
    subst he
    obtain ⟨q1, q2⟩ := Sort.partialInsertionSort_holds hS d a b (by omega) (by omega) hB
    generalize (Sort.partialInsertionSort ltB d a b).1 = d1 at *
    generalize (Sort.partialInsertionSort ltB d a b).2 = bo at *
    cases bo with
    | true =>
      simp -implicitDefEqProofs (disch := first | omega | with_unfolding_all exact eqR (Eq.refl _)) [nums, -getElem!_pos, -Int.natCast_add, -Int.natCast_mul, -Int.natCast_ediv, h0, h1, h2, h3, h10, h11, h12, h13, h14]
      exact hfin H1 d1 q1 (q2 rfl) hw
    | false =>
      simp -implicitDefEqProofs (disch := first | omega | with_unfolding_all exact eqR (Eq.refl _)) [nums, -getElem!_pos, -Int.natCast_add, -Int.natCast_mul, -Int.natCast_ediv, h0, h1, h2, h3, h10, h11, h12, h13, h14]
      refine s119_1 (len := len) (lo := lo) (ex := ex) (d := d1) hS ih (wb := true) (wp := true) (limit := limit) ?_ ?_ ?_ ?_ ?_ ?_ ?_ ?_ (by rw [hw.nxt]; exact hid) hw.at ha hb hlim hlen (by rw [q1.1]; exact hl) (by rw [q1.1]; exact hs) (hB.perm (by omega) q1) hbig hm hp1 hp2 fun H' R r1 r2 hw3 => hfin H' R (Sort.permIn_trans _ _ _ _ _ q1 r1) r2 (hw.trans hw3)
      all_goals simp [h0, h1, h2, h3, h10, h11, h12, h13, h14]
  · cases wb with
    | false =>
      simp -implicitDefEqProofs (disch := first | omega | with_unfolding_all exact eqR (Eq.refl _)) [nums, -getElem!_pos, -Int.natCast_add, -Int.natCast_mul, -Int.natCast_ediv, S119_2, h0, h1, h2, h3, h10, h11, h12, h13, h14]
      refine s119_1 (len := len) (lo := lo) (ex := ex) hS ih (wb := false) (wp := wp) (limit := limit) ?_ ?_ ?_ ?_ ?_ ?_ ?_ ?_ hid hd ha hb hlim hlen hl hs hB hbig hm hp1 hp2 hfin
      all_goals simp [h0, h1, h2, h3, h10, h11, h12, h13, h14]
    | true =>
      cases wp with
      | false =>
        simp -implicitDefEqProofs (disch := first | omega | with_unfolding_all exact eqR (Eq.refl _)) [nums, -getElem!_pos, -Int.natCast_add, -Int.natCast_mul, -Int.natCast_ediv, S119_2, h0, h1, h2, h3, h10, h11, h12, h13, h14]
        refine s119_1 (len := len) (lo := lo) (ex := ex) hS ih (wb := true) (wp := false) (limit := limit) ?_ ?_ ?_ ?_ ?_ ?_ ?_ ?_ hid hd ha hb hlim hlen hl hs hB hbig hm hp1 hp2 hfin
        all_goals simp [h0, h1, h2, h3, h10, h11, h12, h13, h14]
      | true =>
        have c2 : hint ≠ 1 := fun h => c1 ⟨rfl, rfl, h⟩
        simp -implicitDefEqProofs (disch := first | omega | with_unfolding_all exact eqR (Eq.refl _)) [nums, -getElem!_pos, -Int.natCast_add, -Int.natCast_mul, -Int.natCast_ediv, S119_2, h0, h1, h2, h3, h10, h11, h12, h13, h14]
        refine s119_1 (len := len) (lo := lo) (ex := ex) hS ih (wb := true) (wp := true) (limit := limit) ?_ ?_ ?_ ?_ ?_ ?_ ?_ ?_ hid hd ha hb hlim hlen hl hs hB hbig hm hp1 hp2 hfin
        all_goals simp [h0, h1, h2, h3, h10, h11, h12, h13, h14]
theorem s119_3 (hS : Sort.SWO ltB) {m : Nat} (ih : PqB id len lo ex m) {H0 : Heap} {a b limit : Nat} {wb wp : Bool} {σ : Sig} {H : Heap} {d : Array Int} : σ 0 = .sl id 0 len lo ex 1 → σ 1 = .int .i64 (a : Nat) → σ 2 = .int .i64 (b : Nat) → σ 3 = .int .i64 (limit : Nat) → σ 8 = .bool wb → σ 9 = .bool wp → σ 10 = .int .i64 ((b - a) : Nat) →
    id < H.next → H.obj id = (.cells (tB.arr d) none) → a ≤ b → b ≤ len → limit < 2 ^ 40 → len < 65536 → len ≤ d.size → d.size < 2 ^ 40 → Sort.Below ltB a b d → 12 < b - a → b - a ≤ m + 1 → (∀ H' d', Sort.PermIn a b d d' → Sort.SortedIn ltB a b d' → Wr H H' id (.cells (tB.arr d') none) → Res (some (wrapA H0 (.tup []) H')) Q) →
    Res (gi (callI tab) S119_3 [.inBlock 1, .inLoop L119_6, .inBlock 0] (fink [] false H0) σ H) Q := by
  intro h0 h1 h2 h3 h10 h11 h12 hid hd ha hb hlim hlen hl hs hB hbig hm hfin
  simp -implicitDefEqProofs (disch := first | omega | with_unfolding_all exact eqR (Eq.refl _)) [nums, -getElem!_pos, -Int.natCast_add, -Int.natCast_mul, -Int.natCast_ediv, S119_3, h0, h1, h2, h3, h10, h11, h12]
  refine .call (call_132 (len := len) (lo := lo) (ex := ex) hid hd hb hbig hl hs) fun e H1 ⟨hH, p, hint, he, hp1, hp2⟩ => ?_
  subst he hH
  by_cases c1 : hint = 2
  · subst c1
    simp -implicitDefEqProofs (disch := first | omega | with_unfolding_all exact eqR (Eq.refl _)) [nums, -getElem!_pos, -Int.natCast_add, -Int.natCast_mul, -Int.natCast_ediv, h0, h1, h2, h3, h10, h11, h12]
    refine .call (call_133 (len := len) (lo := lo) (ex := ex) hid hd hb (by omega) hl hs) fun e H1 ⟨he, hw⟩ => ?_
    subst he
    have q1 := Sort.reverseRange_holds d a b ha (by omega)
    generalize Sort.reverseRange d a b = d1 at *
    simp -implicitDefEqProofs (disch := first | omega | with_unfolding_all exact eqR (Eq.refl _)) [nums, -getElem!_pos, -Int.natCast_add, -Int.natCast_mul, -Int.natCast_ediv, h0, h1, h2, h3, h10, h11, h12]
    refine s119_2 (len := len) (lo := lo) (ex := ex) (d := d1) hS ih (wb := wb) (wp := wp) (limit := limit) (p := b - 1 - (p - a)) (hint := 1) ?_ ?_ ?_ ?_ ?_ ?_ ?_ ?_ ?_ (by rw [hw.nxt]; exact hid) hw.at ha hb hlim hlen (by rw [q1.1]; exact hl) (by rw [q1.1]; exact hs) (hB.perm (by omega) q1) hbig hm (by omega) (by omega) fun H' R r1 r2 hw3 => hfin H' R (Sort.permIn_trans _ _ _ _ _ q1 r1) r2 (hw.trans hw3)
    all_goals simp [h0, h1, h2, h3, h10, h11, h12]
  · simp -implicitDefEqProofs (disch := first | omega | with_unfolding_all exact eqR (Eq.refl _)) [nums, -getElem!_pos, -Int.natCast_add, -Int.natCast_mul, -Int.natCast_ediv, h0, h1, h2, h3, h10, h11, h12]
    refine s119_2 (len := len) (lo := lo) (ex := ex) hS ih (wb := wb) (wp := wp) (limit := limit) (p := p) (hint := hint) ?_ ?_ ?_ ?_ ?_ ?_ ?_ ?_ ?_ hid hd ha hb hlim hlen hl hs hB hbig hm hp1 hp2 hfin
    all_goals simp [h0, h1, h2, h3, h10, h11, h12]
theorem s119_4 (hS : Sort.SWO ltB) {m : Nat} (ih : PqB id len lo ex m) {H0 : Heap} {a b limit : Nat} {wb wp : Bool} {σ : Sig} {H : Heap} {d : Array Int} : σ 0 = .sl id 0 len lo ex 1 → σ 1 = .int .i64 (a : Nat) → σ 2 = .int .i64 (b : Nat) → σ 3 = .int .i64 (limit : Nat) → σ 8 = .bool wb → σ 9 = .bool wp → σ 10 = .int .i64 ((b - a) : Nat) →
    id < H.next → H.obj id = (.cells (tB.arr d) none) → a ≤ b → b ≤ len → limit < 2 ^ 40 → len < 65536 → len ≤ d.size → d.size < 2 ^ 40 → Sort.Below ltB a b d → 12 < b - a → b - a ≤ m + 1 → limit ≠ 0 → (∀ H' d', Sort.PermIn a b d d' → Sort.SortedIn ltB a b d' → Wr H H' id (.cells (tB.arr d') none) → Res (some (wrapA H0 (.tup []) H')) Q) →
    Res (gi (callI tab) S119_4 [.inBlock 1, .inLoop L119_6, .inBlock 0] (fink [] false H0) σ H) Q := by
  intro h0 h1 h2 h3 h10 h11 h12 hid hd ha hb hlim hlen hl hs hB hbig hm hz hfin
  cases wb with
  | true =>
    simp -implicitDefEqProofs (disch := first | omega | with_unfolding_all exact eqR (Eq.refl _)) [nums, -getElem!_pos, -Int.natCast_add, -Int.natCast_mul, -Int.natCast_ediv, S119_4, h0, h1, h2, h3, h10, h11, h12]
    refine s119_3 (len := len) (lo := lo) (ex := ex) hS ih (wb := true) (wp := wp) (limit := limit) ?_ ?_ ?_ ?_ ?_ ?_ ?_ hid hd ha hb hlim hlen hl hs hB hbig hm hfin
    all_goals simp [h0, h1, h2, h3, h10, h11, h12]
  | false =>
    simp -implicitDefEqProofs (disch := first | omega | with_unfolding_all exact eqR (Eq.refl _)) [nums, -getElem!_pos, -Int.natCast_add, -Int.natCast_mul, -Int.natCast_ediv, S119_4, h0, h1, h2, h3, h10, h11, h12]
    refine .call (call_131 (len := len) (lo := lo) (ex := ex) hid hd hb (by omega) (by omega) hl hs) fun e H1 ⟨he, d1, q1, hw⟩ => ?_
    subst he
    simp -implicitDefEqProofs (disch := first | omega | with_unfolding_all exact eqR (Eq.refl _)) [nums, -getElem!_pos, -Int.natCast_add, -Int.natCast_mul, -Int.natCast_ediv, h0, h1, h2, h3, h10, h11, h12]
    refine s119_3 (len := len) (lo := lo) (ex := ex) (d := d1) hS ih (wb := false) (wp := wp) (limit := limit - 1) ?_ ?_ ?_ ?_ ?_ ?_ ?_ (by rw [hw.nxt]; exact hid) hw.at ha hb (by omega) hlen (by rw [q1.1]; exact hl) (by rw [q1.1]; exact hs) (hB.perm (by omega) q1) hbig hm fun H' R r1 r2 hw3 => hfin H' R (Sort.permIn_trans _ _ _ _ _ q1 r1) r2 (hw.trans hw3)
    all_goals simp [h0, h1, h2, h3, h10, h11, h12]
theorem pq_B (hS : Sort.SWO ltB) (m : Nat) : PqB id len lo ex m := by
  induction m with
  | zero =>
    intro H0 Q a b limit wb wp σ H d hm h0 h1 h2 h3 h10 h11 hid hd ha hb hlim hlen hl hs hB hfin
    obtain ⟨il, hil⟩ : ∃ x, x = Jtm.inLoop L119_6 := ⟨_, rfl⟩; rw [li_eq' il hil]
    simp -implicitDefEqProofs (disch := first | omega | with_unfolding_all exact eqR (Eq.refl _)) [nums, -getElem!_pos, -Int.natCast_add, -Int.natCast_mul, -Int.natCast_ediv, L119_6, h0, h1, h2, h3, h10, h11]
    refine .call (call_129 (len := len) (lo := lo) (ex := ex) hid hd hb ha hl hs) fun e H1 ⟨he, hw⟩ => ?_
    subst he
    obtain ⟨q1, q2⟩ := Sort.insertionSort_holds hS d a b ha (by omega)
    simp -implicitDefEqProofs (disch := first | omega | with_unfolding_all exact eqR (Eq.refl _)) [nums, -getElem!_pos, -Int.natCast_add, -Int.natCast_mul, -Int.natCast_ediv, h0, h1, h2, h3, h10, h11]
    subst hil
    try simp -implicitDefEqProofs (disch := first | omega | with_unfolding_all exact eqR (Eq.refl _)) [nums, -getElem!_pos, -Int.natCast_add, -Int.natCast_mul, -Int.natCast_ediv]
    exact hfin _ _ q1 q2 hw
  | succ m ih =>
    intro H0 Q a b limit wb wp σ H d hm h0 h1 h2 h3 h10 h11 hid hd ha hb hlim hlen hl hs hB hfin
    by_cases c1 : b - a ≤ 12
    · obtain ⟨il, hil⟩ : ∃ x, x = Jtm.inLoop L119_6 := ⟨_, rfl⟩; rw [li_eq' il hil]
      simp -implicitDefEqProofs (disch := first | omega | with_unfolding_all exact eqR (Eq.refl _)) [nums, -getElem!_pos, -Int.natCast_add, -Int.natCast_mul, -Int.natCast_ediv, L119_6, h0, h1, h2, h3, h10, h11]
      refine .call (call_129 (len := len) (lo := lo) (ex := ex) hid hd hb ha hl hs) fun e H1 ⟨he, hw⟩ => ?_
      subst he
      obtain ⟨q1, q2⟩ := Sort.insertionSort_holds hS d a b ha (by omega)
      simp -implicitDefEqProofs (disch := first | omega | with_unfolding_all exact eqR (Eq.refl _)) [nums, -getElem!_pos, -Int.natCast_add, -Int.natCast_mul, -Int.natCast_ediv, h0, h1, h2, h3, h10, h11]
      subst hil
      try simp -implicitDefEqProofs (disch := first | omega | with_unfolding_all exact eqR (Eq.refl _)) [nums, -getElem!_pos, -Int.natCast_add, -Int.natCast_mul, -Int.natCast_ediv]
      exact hfin _ _ q1 q2 hw
    · by_cases c2 : limit = 0
      · subst c2
        obtain ⟨il, hil⟩ : ∃ x, x = Jtm.inLoop L119_6 := ⟨_, rfl⟩; rw [li_eq' il hil]
        simp -implicitDefEqProofs (disch := first | omega | with_unfolding_all exact eqR (Eq.refl _)) [nums, -getElem!_pos, -Int.natCast_add, -Int.natCast_mul, -Int.natCast_ediv, L119_6, S119_5, h0, h1, h2, h3, h10, h11]
        refine .call (call_130 (len := len) (lo := lo) (ex := ex) hid hd hb (by omega) hl hs) fun e H1 ⟨he, hw⟩ => ?_
        subst he
        obtain ⟨q1, q2⟩ := Sort.heapSort_holds hS d a b ha (by omega)
        simp -implicitDefEqProofs (disch := first | omega | with_unfolding_all exact eqR (Eq.refl _)) [nums, -getElem!_pos, -Int.natCast_add, -Int.natCast_mul, -Int.natCast_ediv, h0, h1, h2, h3, h10, h11]
        subst hil
        try simp -implicitDefEqProofs (disch := first | omega | with_unfolding_all exact eqR (Eq.refl _)) [nums, -getElem!_pos, -Int.natCast_add, -Int.natCast_mul, -Int.natCast_ediv]
        exact hfin _ _ q1 q2 hw
      · obtain ⟨il, hil⟩ : ∃ x, x = Jtm.inLoop L119_6 := ⟨_, rfl⟩; rw [li_eq' il hil]
        simp -implicitDefEqProofs (disch := first | omega | with_unfolding_all exact eqR (Eq.refl _)) [nums, -getElem!_pos, -Int.natCast_add, -Int.natCast_mul, -Int.natCast_ediv, L119_6, S119_5, h0, h1, h2, h3, h10, h11]
        subst hil
        refine s119_4 (len := len) (lo := lo) (ex := ex) hS ih (wb := wb) (wp := wp) (limit := limit) ?_ ?_ ?_ ?_ ?_ ?_ ?_ hid hd ha hb hlim hlen hl hs hB (by omega) hm c2 hfin
        all_goals simp [h0, h1, h2, h3, h10, h11]
theorem call_102 (hS : Sort.SWO ltB) {H : Heap} {d : Array Int} (hid : id < H.next) (hd : H.obj id = (.cells (tB.arr d) none)) (hlen : len < 65536) (hl : len ≤ d.size) (hs : d.size < 2 ^ 40) :
    Res (callI tab 66 [.sl id 0 len lo ex 1] H) fun v H' => v = .tup [] ∧ ∃ d', Sort.PermIn 0 len d d' ∧ Sort.SortedIn ltB 0 len d' ∧ Wr H H' id (.cells (tB.arr d') none) := by
  refine .hide fun Q hQ => .enterR tab_102 (by simp [AF102]) rfl (relax_none hd rfl) ?_
  have e0 : IntKind.u64.wrap (len : Int) = len := wrap64 (by omega)
  have b : Sort.bitsLen len ≤ 60 := (Sort.bitsLen_le_iff len 60).2 (by omega)
  simp -implicitDefEqProofs (disch := first | omega | with_unfolding_all exact eqR (Eq.refl _)) [nums, -getElem!_pos, -Int.natCast_add, -Int.natCast_mul, -Int.natCast_ediv, AF102, e0, call_101 hlen]
  refine .call (callq_B (a := 0) (b := len) (limit := Sort.bitsLen len) (len := len) (lo := lo) (ex := ex) (H := H.begin) (d := d) (pq_B hS len) (by omega) hid hd (by omega) (Nat.le_refl _) (by omega) hlen hl hs (.inl rfl)) fun e H1 ⟨he, d', q1, q2, hw⟩ => ?_
  subst he
  simp -implicitDefEqProofs (disch := first | omega | with_unfolding_all exact eqR (Eq.refl _)) [nums, -getElem!_pos, -Int.natCast_add, -Int.natCast_mul, -Int.natCast_ediv, frz_t0]
  obtain ⟨H2, e, w⟩ := hw.toFx.wrapA (H := H) (v := .tup []) rfl
  rw [e]
  exact .mk (hQ _ _ ⟨rfl, d', q1, q2, w⟩)
end
end Go.Mach.Ytl
