/-
  Lengths of numbers in bits, the choice of a pivot, and breaking patterns: what is needed of them. By an AI agent.
-/
import Derived.Test.YtlbihaiejbpjoaaNe
set_option linter.unusedSimpArgs false
set_option linter.unusedVariables false
set_option maxRecDepth 100000
namespace Go.Mach.Ytl
open Go.Mach

/-! ### Bits -/
def lenTab : ByteArray := ⟨#[0, 1, 2, 2, 3, 3, 3, 3, 4, 4, 4, 4, 4, 4, 4, 4, 5, 5, 5, 5, 5, 5, 5, 5, 5, 5, 5, 5, 5, 5, 5, 5, 6, 6, 6, 6, 6, 6, 6, 6, 6, 6, 6, 6, 6, 6, 6, 6, 6, 6, 6, 6, 6, 6, 6, 6, 6, 6, 6, 6, 6, 6, 6, 6, 7, 7, 7, 7, 7, 7, 7, 7, 7, 7, 7, 7, 7, 7, 7, 7, 7, 7, 7, 7, 7, 7, 7, 7, 7, 7, 7, 7, 7, 7, 7, 7, 7, 7, 7, 7, 7, 7, 7, 7, 7, 7, 7, 7, 7, 7, 7, 7, 7, 7, 7, 7, 7, 7, 7, 7, 7, 7, 7, 7, 7, 7, 7, 7, 8, 8, 8, 8, 8, 8, 8, 8, 8, 8, 8, 8, 8, 8, 8, 8, 8, 8, 8, 8, 8, 8, 8, 8, 8, 8, 8, 8, 8, 8, 8, 8, 8, 8, 8, 8, 8, 8, 8, 8, 8, 8, 8, 8, 8, 8, 8, 8, 8, 8, 8, 8, 8, 8, 8, 8, 8, 8, 8, 8, 8, 8, 8, 8, 8, 8, 8, 8, 8, 8, 8, 8, 8, 8, 8, 8, 8, 8, 8, 8, 8, 8, 8, 8, 8, 8, 8, 8, 8, 8, 8, 8, 8, 8, 8, 8, 8, 8, 8, 8, 8, 8, 8, 8, 8, 8, 8, 8, 8, 8, 8, 8, 8, 8, 8, 8, 8, 8, 8, 8, 8, 8, 8, 8, 8, 8, 8, 8]⟩
theorem lenTab_eq : (⟨#[0, 1, 2, 2, 3, 3, 3, 3, 4, 4, 4, 4, 4, 4, 4, 4, 5, 5, 5, 5, 5, 5, 5, 5, 5, 5, 5, 5, 5, 5, 5, 5, 6, 6, 6, 6, 6, 6, 6, 6, 6, 6, 6, 6, 6, 6, 6, 6, 6, 6, 6, 6, 6, 6, 6, 6, 6, 6, 6, 6, 6, 6, 6, 6, 7, 7, 7, 7, 7, 7, 7, 7, 7, 7, 7, 7, 7, 7, 7, 7, 7, 7, 7, 7, 7, 7, 7, 7, 7, 7, 7, 7, 7, 7, 7, 7, 7, 7, 7, 7, 7, 7, 7, 7, 7, 7, 7, 7, 7, 7, 7, 7, 7, 7, 7, 7, 7, 7, 7, 7, 7, 7, 7, 7, 7, 7, 7, 7, 8, 8, 8, 8, 8, 8, 8, 8, 8, 8, 8, 8, 8, 8, 8, 8, 8, 8, 8, 8, 8, 8, 8, 8, 8, 8, 8, 8, 8, 8, 8, 8, 8, 8, 8, 8, 8, 8, 8, 8, 8, 8, 8, 8, 8, 8, 8, 8, 8, 8, 8, 8, 8, 8, 8, 8, 8, 8, 8, 8, 8, 8, 8, 8, 8, 8, 8, 8, 8, 8, 8, 8, 8, 8, 8, 8, 8, 8, 8, 8, 8, 8, 8, 8, 8, 8, 8, 8, 8, 8, 8, 8, 8, 8, 8, 8, 8, 8, 8, 8, 8, 8, 8, 8, 8, 8, 8, 8, 8, 8, 8, 8, 8, 8, 8, 8, 8, 8, 8, 8, 8, 8, 8, 8, 8, 8, 8, 8]⟩ : ByteArray) = lenTab := rfl
theorem lenTab_all : ∀ i : Fin 256, lenTab[i.val]? = some (UInt8.ofNat (Sort.bitsLen i.val)) ∧ Sort.bitsLen i.val ≤ 8 := by decide +kernel
theorem lenTab_get {i : Nat} (h : i < 256) : lenTab[i]? = some (UInt8.ofNat (Sort.bitsLen i)) := (lenTab_all ⟨i, h⟩).1
theorem bitsLen_le8 {i : Nat} (h : i < 256) : Sort.bitsLen i ≤ 8 := (lenTab_all ⟨i, h⟩).2
theorem bitsLen_byte {x : Nat} (h : 256 ≤ x) : Sort.bitsLen x = 8 + Sort.bitsLen (x / 256) := by
  apply Nat.le_antisymm
  · rw [Sort.bitsLen_le_iff]
    have := Sort.lt_two_pow_bitsLen (x / 256)
    rw [Nat.pow_add]
    omega
  · have h1 : 8 ≤ Sort.bitsLen x := by
      apply Decidable.byContradiction; intro hn
      have : Sort.bitsLen x ≤ 8 := by omega
      rw [Sort.bitsLen_le_iff] at this
      omega
    obtain ⟨k, hk⟩ : ∃ k, Sort.bitsLen x = 8 + k := ⟨Sort.bitsLen x - 8, by omega⟩
    have h2 : x < 2 ^ (8 + k) := (Sort.bitsLen_le_iff x _).1 (by omega)
    rw [hk]
    apply Nat.add_le_add_left
    rw [Sort.bitsLen_le_iff]
    rw [Nat.pow_add] at h2
    omega
theorem u8_nat {n : Nat} (h : n ≤ 8) : (((UInt8.ofNat n).toNat : Nat) : Int) = n := by
  have : n = 0 ∨ n = 1 ∨ n = 2 ∨ n = 3 ∨ n = 4 ∨ n = 5 ∨ n = 6 ∨ n = 7 ∨ n = 8 := by omega
  rcases this with rfl | rfl | rfl | rfl | rfl | rfl | rfl | rfl | rfl <;> rfl
theorem wrap8 {x : Nat} (h : x < 256) : IntKind.u8.wrap (x : Int) = x := wrap_byte (by omega) (by omega)
theorem wrap64 {x : Nat} (h : x < 18446744073709551616) : IntKind.u64.wrap (x : Int) = x := by
  simp only [IntKind.wrap, IntKind.signed, IntKind.bits, Bool.false_and, Bool.false_eq_true, if_false]
  omega
theorem fdiv_256 {x : Nat} : shrK .u64 (x : Int) 8 = ((x / 256 : Nat) : Int) := (Int.ofNat_fdiv x 256).symm
theorem call_118 {x : Nat} (h : x < 65536) {H : Heap} : callI tab 118 [.int .u64 x] H = some (.int .i64 (Sort.bitsLen x), H) := by
  refine callI_enter tab_118 (by simp [AF118]) (.inr (by simp)) ?_
  by_cases h8 : x < 256
  · have b := bitsLen_le8 h8
    have e : ((Sort.bitsLen x : Nat) : Int) % 256 = (Sort.bitsLen x : Nat) := by omega
    simp -implicitDefEqProofs (disch := first | omega | with_unfolding_all exact eqR (Eq.refl _)) [nums, -getElem!_pos, -Int.natCast_add, -Int.natCast_mul, -Int.natCast_ediv, AF118, S118_0, S118_1, S118_2, lenTab_eq, lenTab_get, wrap8 h8, e]
  · have h9 : x / 256 < 256 := by omega
    have b := bitsLen_le8 h9
    have e : ((Sort.bitsLen (x / 256) : Nat) : Int) % 256 = (Sort.bitsLen (x / 256) : Nat) := by omega
    have e2 := bitsLen_byte (x := x) (by omega)
    have e3 : IntKind.i64.wrap (8 + ((Sort.bitsLen (x / 256) : Nat) : Int)) = (Sort.bitsLen x : Nat) := by rw [e2, wrap_int] <;> omega
    have e4 : IntKind.u8.wrap ((x / 256 : Nat) : Int) = (x / 256 : Nat) := wrap8 h9
    have e5 : IntKind.i64.wrap 8 = 8 := rfl
    simp -implicitDefEqProofs (disch := first | omega | with_unfolding_all exact eqR (Eq.refl _)) [nums, -getElem!_pos, -Int.natCast_add, -Int.natCast_mul, -Int.natCast_ediv, AF118, S118_0, S118_1, S118_2, lenTab_eq, lenTab_get, fdiv_256, e, e3, e4, e5]
theorem call_101 {x : Nat} (h : x < 65536) {H : Heap} : callI tab 101 [.int .u64 x] H = some (.int .i64 (Sort.bitsLen x), H) := by
  refine callI_enter tab_101 (by simp [AF101]) (.inr (by simp)) ?_
  simp -implicitDefEqProofs (disch := first | omega | with_unfolding_all exact eqR (Eq.refl _)) [nums, -getElem!_pos, -Int.natCast_add, -Int.natCast_mul, -Int.natCast_ediv, AF101, S101_0, call_118 h]

section
variable {g id len lo : Nat} {ex : Bool} {c : Mo → Mo → Int} {s : List Jtm} {k : KF} {Q : AV → Heap → Prop}
theorem load1 {v : AV} : part false 1 [v] 0 = some v := rfl
theorem store1 {H : Heap} {j : Nat} {v w : AV} {rel : Option Nat} : stO H 1 j 0 (.cells [v] rel) (some [w]) = some ((H.kill rel).set j (.cells [w] none)) := rfl


theorem call_138 (hc : CmpM g c) {a b L U j : Nat} {sw : Int} {H : Heap} {d : Array Mo} (hd : H.obj id = .cells (tM.arr d) none) (hj : j < H.next) (hsw : H.obj j = .cells [.int .i64 sw] none) (hb : L ≤ a ∧ a < U ∧ L ≤ b ∧ b < U) (hu : U ≤ len) (hl : len ≤ d.size) (hs : d.size < 2 ^ 40) :
    Res (callI tab 138 [.sl id 0 len lo ex 8, .int .i64 a, .int .i64 b, .ptr j 0, .fn g [] []] H) fun e H' => ∃ (x y : Nat) (s' : Int), e = .tup [.int .i64 x, .int .i64 y] ∧ (L ≤ x ∧ x < U ∧ L ≤ y ∧ y < U) ∧ Wr H H' j (.cells [.int .i64 s'] none) := by
  refine .hide fun Q hQ => .enter tab_138 (by simp [AF138]) (.inl rfl) ?_
  obtain ⟨b1, b2, b3, b4⟩ := hb
  by_cases hlt : c d[b]! d[a]! < 0
  · simp -implicitDefEqProofs (disch := first | omega | with_unfolding_all exact eqR (Eq.refl _)) [nums, -getElem!_pos, -Int.natCast_add, -Int.natCast_mul, -Int.natCast_ediv, AF138, S138_0, hd, hsw, hc _ _, loadM, storeM, storeM2, load1, store1]
    have w : Fx H.begin (H.begin.set j (.cells [.int .i64 (IntKind.i64.wrap (sw + 1))] none)) j (.cells [.int .i64 (IntKind.i64.wrap (sw + 1))] none) := Wr.toFx (Wr.set (H := H.begin) hj)
    obtain ⟨H2, e, w⟩ := w.wrap (H := H) (v := .tup [.int .i64 b, .int .i64 a]) rfl rfl rfl
    rw [e]
    exact .mk (hQ _ _ ⟨_, _, _, rfl, ⟨b3, b4, b1, b2⟩, w⟩)
  · simp -implicitDefEqProofs (disch := first | omega | with_unfolding_all exact eqR (Eq.refl _)) [nums, -getElem!_pos, -Int.natCast_add, -Int.natCast_mul, -Int.natCast_ediv, AF138, S138_0, hd, hsw, hc _ _, loadM, storeM, storeM2, load1, store1]
    try rw [wrap_begin rfl]
    exact .mk (hQ _ _ ⟨a, b, sw, rfl, ⟨b1, b2, b3, b4⟩, .refl hj hsw⟩)


theorem call_128 (hc : CmpM g c) {a b e L U j : Nat} {sw : Int} {H : Heap} {d : Array Mo} (hd : H.obj id = .cells (tM.arr d) none) (hj : j < H.next) (hi : id < H.next) (hij : id ≠ j) (hsw : H.obj j = .cells [.int .i64 sw] none) (hb : (L ≤ a ∧ a < U) ∧ (L ≤ b ∧ b < U) ∧ L ≤ e ∧ e < U) (hu : U ≤ len) (hl : len ≤ d.size) (hs : d.size < 2 ^ 40) :
    Res (callI tab 128 [.sl id 0 len lo ex 8, .int .i64 a, .int .i64 b, .int .i64 e, .ptr j 0, .fn g [] []] H) fun v H' => ∃ (x : Nat) (s' : Int), v = .int .i64 x ∧ (L ≤ x ∧ x < U) ∧ Wr H H' j (.cells [.int .i64 s'] none) := by
  refine .hide fun Q hQ => .enter tab_128 (by simp [AF128]) (.inl rfl) ?_
  obtain ⟨⟨b1, b2⟩, ⟨b3, b4⟩, b5, b6⟩ := hb
  simp -implicitDefEqProofs (disch := first | omega | with_unfolding_all exact eqR (Eq.refl _)) [nums, -getElem!_pos, -Int.natCast_add, -Int.natCast_mul, -Int.natCast_ediv, AF128]
  refine .call (call_138 (H := H.begin) (len := len) (lo := lo) (ex := ex) hc hd hj hsw ⟨b1, b2, b3, b4⟩ hu hl hs) fun e1 H1 ⟨x1, y1, s1, he, ⟨c1, c2, c3, c4⟩, w1⟩ => ?_
  subst he
  simp -implicitDefEqProofs (disch := first | omega | with_unfolding_all exact eqR (Eq.refl _)) [nums, -getElem!_pos, -Int.natCast_add, -Int.natCast_mul, -Int.natCast_ediv]
  refine .call (call_138 (len := len) (lo := lo) (ex := ex) hc ((w1.ne hi hij).trans hd) (by rw [w1.nxt]; exact hj) w1.at ⟨c3, c4, b5, b6⟩ hu hl hs) fun e2 H2 ⟨x2, y2, s2, he, ⟨d1, d2, d3, d4⟩, w2⟩ => ?_
  subst he
  have w12 := w1.trans w2
  simp -implicitDefEqProofs (disch := first | omega | with_unfolding_all exact eqR (Eq.refl _)) [nums, -getElem!_pos, -Int.natCast_add, -Int.natCast_mul, -Int.natCast_ediv]
  refine .call (call_138 (len := len) (lo := lo) (ex := ex) hc ((w12.ne hi hij).trans hd) (by rw [w12.nxt]; exact hj) w12.at ⟨c1, c2, d1, d2⟩ hu hl hs) fun e3 H3 ⟨x3, y3, s3, he, ⟨f1, f2, f3, f4⟩, w3⟩ => ?_
  subst he
  have w := w12.trans w3
  simp -implicitDefEqProofs (disch := first | omega | with_unfolding_all exact eqR (Eq.refl _)) [nums, -getElem!_pos, -Int.natCast_add, -Int.natCast_mul, -Int.natCast_ediv]
  obtain ⟨H2, e, w⟩ := w.toFx.wrap (H := H) (v := .int .i64 y3) rfl rfl rfl
  rw [e]
  exact .mk (hQ _ _ ⟨_, _, rfl, ⟨f3, f4⟩, w⟩)


theorem call_127 (hc : CmpM g c) {a L U j : Nat} {sw : Int} {H : Heap} {d : Array Mo} (hd : H.obj id = .cells (tM.arr d) none) (hj : j < H.next) (hi : id < H.next) (hij : id ≠ j) (hsw : H.obj j = .cells [.int .i64 sw] none) (hb : L + 1 ≤ a ∧ a + 1 < U) (hu : U ≤ len) (hl : len ≤ d.size) (hs : d.size < 2 ^ 40) :
    Res (callI tab 127 [.sl id 0 len lo ex 8, .int .i64 a, .ptr j 0, .fn g [] []] H) fun v H' => ∃ (x : Nat) (s' : Int), v = .int .i64 x ∧ (L ≤ x ∧ x < U) ∧ Wr H H' j (.cells [.int .i64 s'] none) := by
  refine .hide fun Q hQ => .enter tab_127 (by simp [AF127]) (.inl rfl) ?_
  simp -implicitDefEqProofs (disch := first | omega | with_unfolding_all exact eqR (Eq.refl _)) [nums, -getElem!_pos, -Int.natCast_add, -Int.natCast_mul, -Int.natCast_ediv, AF127]
  refine .call (call_128 (H := H.begin) (len := len) (lo := lo) (ex := ex) (L := L) (U := U) hc hd hj hi hij hsw ⟨by omega, by omega, by omega, by omega⟩ hu hl hs) fun e1 H1 ⟨x1, s1, he, c1, w1⟩ => ?_
  subst he
  simp -implicitDefEqProofs (disch := first | omega | with_unfolding_all exact eqR (Eq.refl _)) [nums, -getElem!_pos, -Int.natCast_add, -Int.natCast_mul, -Int.natCast_ediv]
  obtain ⟨H2, e, w⟩ := w1.toFx.wrap (H := H) (v := .int .i64 x1) rfl rfl rfl
  rw [e]
  exact .mk (hQ _ _ ⟨_, _, rfl, c1, w⟩)


theorem call_143 {a b L U j : Nat} {sw : Int} {H : Heap} {d : Array Int} (hd : H.obj id = .cells (tB.arr d) none) (hj : j < H.next) (hsw : H.obj j = .cells [.int .i64 sw] none) (hb : L ≤ a ∧ a < U ∧ L ≤ b ∧ b < U) (hu : U ≤ len) (hl : len ≤ d.size) (hs : d.size < 2 ^ 40) :
    Res (callI tab 143 [.sl id 0 len lo ex 1, .int .i64 a, .int .i64 b, .ptr j 0] H) fun e H' => ∃ (x y : Nat) (s' : Int), e = .tup [.int .i64 x, .int .i64 y] ∧ (L ≤ x ∧ x < U ∧ L ≤ y ∧ y < U) ∧ Wr H H' j (.cells [.int .i64 s'] none) := by
  refine .hide fun Q hQ => .enter tab_143 (by simp [AF143]) (.inl rfl) ?_
  obtain ⟨b1, b2, b3, b4⟩ := hb
  by_cases hlt : d[b]! < d[a]!
  · simp -implicitDefEqProofs (disch := first | omega | with_unfolding_all exact eqR (Eq.refl _)) [nums, -getElem!_pos, -Int.natCast_add, -Int.natCast_mul, -Int.natCast_ediv, AF143, S143_0, hd, hsw, call_135, loadB, storeB, storeB2, load1, store1]
    have w : Fx H.begin (H.begin.set j (.cells [.int .i64 (IntKind.i64.wrap (sw + 1))] none)) j (.cells [.int .i64 (IntKind.i64.wrap (sw + 1))] none) := Wr.toFx (Wr.set (H := H.begin) hj)
    obtain ⟨H2, e, w⟩ := w.wrap (H := H) (v := .tup [.int .i64 b, .int .i64 a]) rfl rfl rfl
    rw [e]
    exact .mk (hQ _ _ ⟨_, _, _, rfl, ⟨b3, b4, b1, b2⟩, w⟩)
  · simp -implicitDefEqProofs (disch := first | omega | with_unfolding_all exact eqR (Eq.refl _)) [nums, -getElem!_pos, -Int.natCast_add, -Int.natCast_mul, -Int.natCast_ediv, AF143, S143_0, hd, hsw, call_135, loadB, storeB, storeB2, load1, store1]
    try rw [wrap_begin rfl]
    exact .mk (hQ _ _ ⟨a, b, sw, rfl, ⟨b1, b2, b3, b4⟩, .refl hj hsw⟩)


theorem call_141 {a b e L U j : Nat} {sw : Int} {H : Heap} {d : Array Int} (hd : H.obj id = .cells (tB.arr d) none) (hj : j < H.next) (hi : id < H.next) (hij : id ≠ j) (hsw : H.obj j = .cells [.int .i64 sw] none) (hb : (L ≤ a ∧ a < U) ∧ (L ≤ b ∧ b < U) ∧ L ≤ e ∧ e < U) (hu : U ≤ len) (hl : len ≤ d.size) (hs : d.size < 2 ^ 40) :
    Res (callI tab 141 [.sl id 0 len lo ex 1, .int .i64 a, .int .i64 b, .int .i64 e, .ptr j 0] H) fun v H' => ∃ (x : Nat) (s' : Int), v = .int .i64 x ∧ (L ≤ x ∧ x < U) ∧ Wr H H' j (.cells [.int .i64 s'] none) := by
  refine .hide fun Q hQ => .enter tab_141 (by simp [AF141]) (.inl rfl) ?_
  obtain ⟨⟨b1, b2⟩, ⟨b3, b4⟩, b5, b6⟩ := hb
  simp -implicitDefEqProofs (disch := first | omega | with_unfolding_all exact eqR (Eq.refl _)) [nums, -getElem!_pos, -Int.natCast_add, -Int.natCast_mul, -Int.natCast_ediv, AF141]
  refine .call (call_143 (H := H.begin) (len := len) (lo := lo) (ex := ex) hd hj hsw ⟨b1, b2, b3, b4⟩ hu hl hs) fun e1 H1 ⟨x1, y1, s1, he, ⟨c1, c2, c3, c4⟩, w1⟩ => ?_
  subst he
  simp -implicitDefEqProofs (disch := first | omega | with_unfolding_all exact eqR (Eq.refl _)) [nums, -getElem!_pos, -Int.natCast_add, -Int.natCast_mul, -Int.natCast_ediv]
  refine .call (call_143 (len := len) (lo := lo) (ex := ex) ((w1.ne hi hij).trans hd) (by rw [w1.nxt]; exact hj) w1.at ⟨c3, c4, b5, b6⟩ hu hl hs) fun e2 H2 ⟨x2, y2, s2, he, ⟨d1, d2, d3, d4⟩, w2⟩ => ?_
  subst he
  have w12 := w1.trans w2
  simp -implicitDefEqProofs (disch := first | omega | with_unfolding_all exact eqR (Eq.refl _)) [nums, -getElem!_pos, -Int.natCast_add, -Int.natCast_mul, -Int.natCast_ediv]
  refine .call (call_143 (len := len) (lo := lo) (ex := ex) ((w12.ne hi hij).trans hd) (by rw [w12.nxt]; exact hj) w12.at ⟨c1, c2, d1, d2⟩ hu hl hs) fun e3 H3 ⟨x3, y3, s3, he, ⟨f1, f2, f3, f4⟩, w3⟩ => ?_
  subst he
  have w := w12.trans w3
  simp -implicitDefEqProofs (disch := first | omega | with_unfolding_all exact eqR (Eq.refl _)) [nums, -getElem!_pos, -Int.natCast_add, -Int.natCast_mul, -Int.natCast_ediv]
  obtain ⟨H2, e, w⟩ := w.toFx.wrap (H := H) (v := .int .i64 y3) rfl rfl rfl
  rw [e]
  exact .mk (hQ _ _ ⟨_, _, rfl, ⟨f3, f4⟩, w⟩)


theorem call_140 {a L U j : Nat} {sw : Int} {H : Heap} {d : Array Int} (hd : H.obj id = .cells (tB.arr d) none) (hj : j < H.next) (hi : id < H.next) (hij : id ≠ j) (hsw : H.obj j = .cells [.int .i64 sw] none) (hb : L + 1 ≤ a ∧ a + 1 < U) (hu : U ≤ len) (hl : len ≤ d.size) (hs : d.size < 2 ^ 40) :
    Res (callI tab 140 [.sl id 0 len lo ex 1, .int .i64 a, .ptr j 0] H) fun v H' => ∃ (x : Nat) (s' : Int), v = .int .i64 x ∧ (L ≤ x ∧ x < U) ∧ Wr H H' j (.cells [.int .i64 s'] none) := by
  refine .hide fun Q hQ => .enter tab_140 (by simp [AF140]) (.inl rfl) ?_
  simp -implicitDefEqProofs (disch := first | omega | with_unfolding_all exact eqR (Eq.refl _)) [nums, -getElem!_pos, -Int.natCast_add, -Int.natCast_mul, -Int.natCast_ediv, AF140]
  refine .call (call_141 (H := H.begin) (len := len) (lo := lo) (ex := ex) (L := L) (U := U) hd hj hi hij hsw ⟨by omega, by omega, by omega, by omega⟩ hu hl hs) fun e1 H1 ⟨x1, s1, he, c1, w1⟩ => ?_
  subst he
  simp -implicitDefEqProofs (disch := first | omega | with_unfolding_all exact eqR (Eq.refl _)) [nums, -getElem!_pos, -Int.natCast_add, -Int.natCast_mul, -Int.natCast_ediv]
  obtain ⟨H2, e, w⟩ := w1.toFx.wrap (H := H) (v := .int .i64 x1) rfl rfl rfl
  rw [e]
  exact .mk (hQ _ _ ⟨_, _, rfl, c1, w⟩)

end
end Go.Mach.Ytl
