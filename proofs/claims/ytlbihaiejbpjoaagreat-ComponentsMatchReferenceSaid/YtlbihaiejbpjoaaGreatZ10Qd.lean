/-
  Pruned copy of the text Qd. By an AI agent.
-/
import Derived.Test.YtlbihaiejbpjoaaGreatZ10Qa
import Derived.Test.YtlbihaiejbpjoaaGreatZ10Pd
import Derived.Test.YtlbihaiejbpjoaaGreatZ10Ct
set_option linter.unusedSimpArgs false
set_option linter.unusedVariables false
set_option maxRecDepth 100000
namespace Go.Mach.Ytl
open Go.Mach
section
variable {s : List Jtm} {k : KF} {Q : AV → Heap → Prop}
def Stb (Hs : Heap) (v : AV) (X : List Mo) : Prop := ∀ H, Ow Hs H → Rd tM H v X
theorem ML.stb {Hs : Heap} {v : AV} {X : List Mo} (h : ML tM v X) : Stb Hs v X := fun H _ => h.rd H
theorem acc_stb {H0 Hs : Heap} {v : AV} {X : List Mo} (h : Acc tM H0 Hs v X) : Stb Hs v X := fun H ho => (h.other ho.next fun i _ hi => ho.obj i hi).rd
end
end Go.Mach.Ytl
set_option linter.unusedSimpArgs false
set_option linter.unusedVariables false
set_option maxRecDepth 100000
namespace Go.Mach.Ytl
open Go.Mach
section
variable {s : List Jtm} {k : KF} {Q : AV → Heap → Prop}
def Mo.qcells (m : Mo) : List AV := [.int .u8 m.x0, .int .u8 m.x1, .int .u8 m.x2, .int .u8 m.x3]
def tQ : Ty Mo where
  e := 4
  agg := true
  val m := .agg m.qcells
  cells := Mo.qcells
  len _ := rfl
  pos := by decide
  flat _ := rfl
  one a p q := part_mid 4 p a.qcells q rfl
  nn a b n := rfl
  pure a := rfl
  cell a := rfl
theorem get_qcells {m : Mo} {q : Nat} (h : q < 4) : m.qcells[q]? = some (.int .u8 (m.get q)) := by
  match q, h with
  | 0, _ | 1, _ | 2, _ | 3, _ => rfl
theorem mq_cell {v : AV} {l : List Mo} (hv : ML tQ v l) (H : Heap) {i q : Nat} (hi : i < l.length) (hq : q < 4) : ∃ p r, iaddrA none 4 v (.int .i64 i) = some p ∧ iaddrA (some 4) 1 p (.int .i64 q) = some r ∧ loadA H false 1 r = some (.int .u8 (l[i].get q)) := by
  rcases hv with ⟨rfl, rfl⟩ | ⟨ex, rfl⟩
  · exact nomatch hi
  · refine ⟨.pv (tQ.row l) (i * 4), .pv (tQ.row l) (i * 4 + q * 1), ?_, ?_, ?_⟩
    · simp only [iaddrA]
      rw [if_pos ⟨by omega, by omega, row_ne tQ hi⟩]
      simp
    · simp only [iaddrA]
      rw [if_pos ⟨by omega, by omega⟩]
      simp
    · rw [loadA_pv, part_false, Nat.mul_one]
      have h1 : part true 4 (tQ.row l) (i * 4) = some (.agg (l[i]).qcells) := tQ.row_part l i hi
      simp only [part, if_true] at h1
      split at h1
      · simp only [Option.some.injEq, AV.agg.injEq] at h1
        have h2 : (((tQ.row l).drop (i * 4)).take 4)[q]? = some (.int .u8 (l[i].get q)) := by rw [h1]; exact get_qcells hq
        rw [List.getElem?_take, if_pos hq, List.getElem?_drop] at h2
        exact h2
      · cases h1
def Box (n : Nat) (m : Mo) : Prop := ∀ q, 0 ≤ m.get q ∧ m.get q ≤ 3 ∧ (n ≤ q → m.get q = 0)
theorem zero_get : ∀ q, Mo.zero.get q = 0 := fun q => by
  match q with
  | 0 | 1 | 2 | 3 | 4 | 5 | 6 | 7 => rfl
  | q + 8 => rfl
def Bytes (m : Mo) : Prop := ∀ q, q < 4 → 0 ≤ m.get q ∧ m.get q ≤ 255
theorem l52_1 {v0 : AV} {l : List Mo} (hv : ML tQ v0 l) {n i : Nat} (hn : n ≤ 4) (hi : i < l.length) (hby : Bytes l[i]) (hll : l.length < 2 ^ 63) {H0 : Heap} (hb : H0.base ≤ H0.next) {b : Nat} (hb0 : H0.next ≤ b) {x2 w : AV} {cur : List Mo} : ∀ (r q : Nat) (σ : Sig) (H : Heap) (m : Mo), n - q = r → q ≤ n → σ 0 = v0 → σ 1 = .int .i64 (n : Nat) → σ 2 = x2 → σ 3 = .int .i64 3 → σ 9 = w → σ 10 = .int .i64 (i : Nat) → σ 11 = .ptr b 0 → σ 12 = .int .i64 (q : Nat) → AccP tM (fun i => H0.next ≤ i ∧ i ≠ b) H w cur → Ow H0 H → b < H.next → H.obj b = .cells m.cells none → Box q m →
    (∀ σ' H' m', σ' 0 = v0 → σ' 1 = .int .i64 (n : Nat) → σ' 2 = x2 → σ' 3 = .int .i64 3 → σ' 9 = w → σ' 10 = .int .i64 (i : Nat) → σ' 11 = .ptr b 0 → AccP tM (fun i => H0.next ≤ i ∧ i ≠ b) H' w cur → Ow H0 H' → b < H'.next → H'.obj b = .cells m'.cells none → Box n m' → Res (ai (callI tab) s k .nrm σ' H') Q) →
    Res (li (callI tab) L52_1 (.inBlock 2 :: s) k σ H) Q := by
  intro r
  induction r with
  | zero =>
    intro q σ H m hr hq h0 h1 h2 h3 h9 h10 h11 h12 ha ho hn' hob hbx hQ
    have : q = n := by omega
    subst this
    obtain ⟨il, hil⟩ : ∃ x, x = Jtm.inLoop L52_1 := ⟨_, rfl⟩; rw [li_eq' il hil]
    simp -implicitDefEqProofs (disch := first | omega | with_unfolding_all exact eqR (Eq.refl _)) [nums, -getElem!_pos, -Int.natCast_add, -Int.natCast_mul, -Int.natCast_ediv, L52_1, S52_0, h0, h1, h2, h3, h9, h10, h11, h12]
    subst hil
    try simp -implicitDefEqProofs (disch := first | omega | with_unfolding_all exact eqR (Eq.refl _)) [nums, -getElem!_pos, -Int.natCast_add, -Int.natCast_mul, -Int.natCast_ediv]
    refine hQ _ _ m ?_ ?_ ?_ ?_ ?_ ?_ ?_ ha ho hn' hob hbx <;> simp [h0, h1, h2, h3, h9, h10, h11]
  | succ r ih =>
    intro q σ H m hr hq h0 h1 h2 h3 h9 h10 h11 h12 ha ho hn' hob hbx hQ
    have hq4 : q < 4 := by omega
    have hq8 : q < 8 := by omega
    have c4 : ((q : Nat) : Int) < 4 := by omega
    obtain ⟨p, p2, e1, e2, e3⟩ := mq_cell hv H hi hq4
    obtain ⟨a, hA⟩ : ∃ a : Nat, l[i].get q = a := ⟨(l[i].get q).toNat, by have := hby q hq4; omega⟩
    have hA2 : (a : Int) ≤ 255 := by rw [← hA]; exact (hby q hq4).2
    obtain ⟨c, hc⟩ : ∃ c, c = a % 4 := ⟨_, rfl⟩
    have hrem : ((a : Nat) : Int).tmod 4 = ((c : Nat) : Int) := by rw [hc]; rfl
    have hw4 : IntKind.i64.wrap 4 = 4 := by decide +kernel
    rw [hA] at e3
    have hd : Df (fun i => H0.next ≤ i) H (H.set b (.cells (m.setI q (c : Nat)).cells none)) := Df.refl.set _ (.inl hb0)
    obtain ⟨il, hil⟩ : ∃ x, x = Jtm.inLoop L52_1 := ⟨_, rfl⟩; rw [li_eq' il hil]
    simp -implicitDefEqProofs (disch := first | omega | with_unfolding_all exact eqR (Eq.refl _)) [nums, -getElem!_pos, -Int.natCast_add, -Int.natCast_mul, -Int.natCast_ediv, L52_1, S52_0, h0, h1, h2, h3, h9, h10, h11, h12, c4, e1, e2, e3, hw4, hrem, iaddr_arr, hob, storeI]
    subst hil
    try simp -implicitDefEqProofs (disch := first | omega | with_unfolding_all exact eqR (Eq.refl _)) [nums, -getElem!_pos, -Int.natCast_add, -Int.natCast_mul, -Int.natCast_ediv]
    refine ih (q + 1) _ _ (m.setI q (c : Nat)) (by omega) (by omega) ?_ ?_ ?_ ?_ ?_ ?_ ?_ ?_ (ha.frame (Nat.le_refl _) (fun i h1 h2 => by simp only [Heap.set, upd]; rw [if_neg h1.2]) fun i h _ => h) (hd.ow ho hb fun i h => h) hn' (by simp [Heap.set, upd]) (fun q' => ?_) hQ
    any_goals (first | (simp [h0, h1, h2, h3, h9, h10, h11, h12]; done) | skip)
    rw [get_set hq8]
    split
    · refine ⟨by omega, by omega, fun h => by omega⟩
    · have := hbx q'
      exact ⟨this.1, this.2.1, fun h => this.2.2 (by omega)⟩
theorem l52_5 {v0 : AV} {l : List Mo} (hv : ML tQ v0 l) {n most : Nat} (hn : n ≤ 4) (hm : most ≤ 8) (hby : ∀ m ∈ l, Bytes m) (hll : l.length < 2 ^ 63) {H0 : Heap} (hb : H0.base ≤ H0.next) : ∀ (r i : Nat) (σ : Sig) (H : Heap) (w : AV) (cur : List Mo), most - i = r → i ≤ most → i ≤ l.length → σ 0 = v0 → σ 1 = .int .i64 (n : Nat) → σ 2 = .int .i64 (most : Nat) → σ 3 = .int .i64 3 → σ 9 = w → σ 10 = .int .i64 (i : Nat) → AccP tM (fun i => H0.next ≤ i) H w cur → Ow H0 H → cur.length = i → (∀ m ∈ cur, Box n m) →
    (∀ σ' H' w' cur', σ' 9 = w' → AccP tM (fun i => H0.next ≤ i) H' w' cur' → Ow H0 H' → cur'.length ≤ most → (∀ m ∈ cur', Box n m) → Res (ai (callI tab) s k .nrm σ' H') Q) →
    Res (li (callI tab) L52_5 (.inBlock 0 :: s) k σ H) Q := by
  intro r
  induction r with
  | zero =>
    intro i σ H w cur hr hi hil2 h0 h1 h2 h3 h9 h10 ha ho hlen hbx hQ
    have hln := (hv.rd H).1
    have : i = most := by omega
    subst this
    by_cases hlt : i < l.length
    · obtain ⟨il, hil⟩ : ∃ x, x = Jtm.inLoop L52_5 := ⟨_, rfl⟩; rw [li_eq' il hil]
      simp -implicitDefEqProofs (disch := first | omega | with_unfolding_all exact eqR (Eq.refl _)) [nums, -getElem!_pos, -Int.natCast_add, -Int.natCast_mul, -Int.natCast_ediv, L52_5, S52_4, h0, h1, h2, h3, h9, h10, hln]
      subst hil
      try simp -implicitDefEqProofs (disch := first | omega | with_unfolding_all exact eqR (Eq.refl _)) [nums, -getElem!_pos, -Int.natCast_add, -Int.natCast_mul, -Int.natCast_ediv]
      exact hQ _ _ w cur (by simp [h9]) ha ho (by omega) hbx
    · obtain ⟨il, hil⟩ : ∃ x, x = Jtm.inLoop L52_5 := ⟨_, rfl⟩; rw [li_eq' il hil]
      simp -implicitDefEqProofs (disch := first | omega | with_unfolding_all exact eqR (Eq.refl _)) [nums, -getElem!_pos, -Int.natCast_add, -Int.natCast_mul, -Int.natCast_ediv, L52_5, S52_4, h0, h1, h2, h3, h9, h10, hln]
      subst hil
      try simp -implicitDefEqProofs (disch := first | omega | with_unfolding_all exact eqR (Eq.refl _)) [nums, -getElem!_pos, -Int.natCast_add, -Int.natCast_mul, -Int.natCast_ediv]
      exact hQ _ _ w cur (by simp [h9]) ha ho (by omega) hbx
  | succ r ih =>
    intro i σ H w cur hr hi hil2 h0 h1 h2 h3 h9 h10 ha ho hlen hbx hQ
    have hln := (hv.rd H).1
    by_cases hlt : i < l.length
    · have hf0 : fillA Mo.zero.cells [] = some Mo.zero.cells := rfl
      have hag : AV.agg Mo.zero.cells = mono Mo.zero := rfl
      have d1 : Df (fun i => H0.next ≤ i) H ((H.new (.cells Mo.zero.cells none)).set H.next (.cells Mo.zero.cells none)) := (Df.refl.new _).set _ (.inr (Nat.le_refl _))
      have a1 : AccP tM (fun i => H0.next ≤ i ∧ i ≠ H.next) ((H.new (.cells Mo.zero.cells none)).set H.next (.cells Mo.zero.cells none)) w cur := ha.frame (by show H.next ≤ H.next + 1; omega) (fun i h1 h2 => by simp only [Heap.new, Heap.set, upd]; rw [if_neg (by omega), if_neg (by omega)]) fun i h h2 => ⟨h, by omega⟩
      obtain ⟨il, hil⟩ : ∃ x, x = Jtm.inLoop L52_5 := ⟨_, rfl⟩; rw [li_eq' il hil]
      simp -implicitDefEqProofs (disch := first | omega | with_unfolding_all exact eqR (Eq.refl _)) [nums, -getElem!_pos, -Int.natCast_add, -Int.natCast_mul, -Int.natCast_ediv, L52_5, S52_4, h0, h1, h2, h3, h9, h10, hln, hf0, hag, storeZ]
      refine l52_1 (v0 := v0) (l := l) (n := n) (i := i) hv hn hlt (hby _ (List.getElem_mem hlt)) hll (H0 := H0) hb (b := H.next) ho.next (x2 := .int .i64 (most : Nat)) (w := w) (cur := cur) _ 0 _ _ Mo.zero rfl (by omega) ?_ ?_ ?_ ?_ ?_ ?_ ?_ ?_ a1 (d1.ow ho hb fun i h => h) (by show H.next < H.next + 1; omega) (by simp [Heap.set, upd]) (fun q => by rw [zero_get]; omega) fun σ1 H1 m1 g0 g1 g2 g3 g9 g10 g11 ga go gn gob gb => ?_
      any_goals (first | (simp [h0, h1, h2, h3, h9, h10]; done) | skip)
      have hx := go.next
      have hnx := ho.next
      obtain ⟨w', H', e3, ha', df⟩ := ga.app (m := [m1]) (bs := 64) (ex := true) (n := 1) ⟨hx, by omega⟩ (by simp) rfl (by simp; omega)
      rw [show tM.e = 8 from rfl, ← row_one] at e3
      simp -implicitDefEqProofs (disch := first | omega | with_unfolding_all exact eqR (Eq.refl _)) [nums, -getElem!_pos, -Int.natCast_add, -Int.natCast_mul, -Int.natCast_ediv, S52_2, S52_3, g0, g1, g2, g3, g9, g10, g11, gob, ldM, bslR_mono, e3]
      subst hil
      try simp -implicitDefEqProofs (disch := first | omega | with_unfolding_all exact eqR (Eq.refl _)) [nums, -getElem!_pos, -Int.natCast_add, -Int.natCast_mul, -Int.natCast_ediv]
      refine ih (i + 1) _ H' w' _ (by omega) (by omega) (by omega) ?_ ?_ ?_ ?_ ?_ ?_ (ha'.frame (Nat.le_refl _) (fun _ _ _ => rfl) fun i h _ => h.1) (df.ow go hb fun i h => h.1) (by simp; omega) (fun m hm => ?_) hQ
      any_goals (first | (simp [g0, g1, g2, g3, g9, g10]; done) | skip)
      rcases List.mem_append.1 hm with h | h
      · exact hbx m h
      · rw [List.mem_singleton.1 h]; exact gb
    · obtain ⟨il, hil⟩ : ∃ x, x = Jtm.inLoop L52_5 := ⟨_, rfl⟩; rw [li_eq' il hil]
      simp -implicitDefEqProofs (disch := first | omega | with_unfolding_all exact eqR (Eq.refl _)) [nums, -getElem!_pos, -Int.natCast_add, -Int.natCast_mul, -Int.natCast_ediv, L52_5, S52_4, h0, h1, h2, h3, h9, h10, hln]
      subst hil
      try simp -implicitDefEqProofs (disch := first | omega | with_unfolding_all exact eqR (Eq.refl _)) [nums, -getElem!_pos, -Int.natCast_add, -Int.natCast_mul, -Int.natCast_ediv]
      exact hQ _ _ w cur (by simp [h9]) ha ho (by omega) hbx
theorem call_52 {v0 : AV} {l : List Mo} {n most : Nat} {H : Heap} (hv : ML tQ v0 l) (hn : n ≤ 4) (hm : most ≤ 8) (hby : ∀ m ∈ l, Bytes m) (hll : l.length < 2 ^ 63) : Res (callI tab 6 [v0, .int .i64 n, .int .i64 most, .int .i64 3] H) fun e H' => H' = H ∧ ∃ L, ML tM e L ∧ L.length ≤ most ∧ ∀ m ∈ L, Box n m := by
  have hf1 := hv.frz
  refine .hide fun Q hQ => .enter tab_52 (by simp [AF52]) (.inr (by simp [hf1])) ?_
  simp -implicitDefEqProofs (disch := first | omega | with_unfolding_all exact eqR (Eq.refl _)) [nums, -getElem!_pos, -Int.natCast_add, -Int.natCast_mul, -Int.natCast_ediv, AF52]
  refine l52_5 hv hn hm hby hll (H0 := H.begin) (Nat.le_refl _) _ 0 _ _ (.vec 0 true []) [] rfl (by omega) (by omega) ?_ ?_ ?_ ?_ ?_ ?_ .vec (.refl _) rfl (by simp) fun σ' H' w' cur q9 ha ho hl hbx => ?_
  any_goals (first | (simp; done) | skip)
  obtain ⟨e, H2, hz, hml, ho2⟩ := (ha.acc (H0 := H.begin) fun i h => h).frz ho (Nat.le_refl _) (Nat.le_refl _) 5
  have hnn := hml.nonew H.next 3
  have hws : H2.ws = [] := ho2.ws
  have hz' : Mach.frz H.next 6 H' w' = some (e, H2) := hz
  simp -implicitDefEqProofs (disch := first | omega | with_unfolding_all exact eqR (Eq.refl _)) [nums, -getElem!_pos, -Int.natCast_add, -Int.natCast_mul, -Int.natCast_ediv, S52_6, q9, hz', hnn, wrap_quiet hws hnn]
  exact .mk (hQ _ _ ⟨rfl, cur, hml, hl, hbx⟩)
end
end Go.Mach.Ytl
set_option linter.unusedSimpArgs false
set_option linter.unusedVariables false
set_option maxRecDepth 100000
namespace Go.Mach.Ytl
open Go.Mach
section
variable {s : List Jtm} {k : KF} {Q : AV → Heap → Prop}
def inp (v : AV) (n : Nat) : AV := .agg [v, .int .u8 n]
theorem inp_flat {v : AV} {l : List Mo} {n : Nat} (hv : ML tQ v l) : (inp v n).flat = some [v, .int .u8 n] := by
  have := hv.flat
  simp [inp, this]
theorem inp_frz {v : AV} {l : List Mo} {n : Nat} (hv : ML tQ v l) (b m : Nat) (H : Heap) : frz b (m + 2) H (inp v n) = some (inp v n, H) := by
  have := hv.frz b m H
  simp [inp, this]
theorem load20 {a b : AV} : part false 1 [a, b] 0 = some a := rfl
theorem load21 {a b : AV} : part false 1 [a, b] 1 = some b := rfl
theorem ld20 {a b : AV} : part true 2 [a, b] 0 = some (.agg [a, b]) := rfl
theorem call_24 {v : AV} {l : List Mo} {n : Nat} (hv : ML tQ v l) (hn : n < 256) {H : Heap} : callI tab 5 [inp v n] H = some (.int .i64 (n % 5 : Nat), H) := by
  have hf := inp_flat (n := n) hv
  have hz := inp_frz (n := n) hv H.base 4 H
  obtain ⟨c, hc⟩ : ∃ c, c = n % 5 := ⟨_, rfl⟩
  have hrem : ((n : Nat) : Int).tmod 5 = ((c : Nat) : Int) := by rw [hc]; rfl
  rw [← hc]
  have : Res (callI tab 5 [inp v n] H) fun e H' => e = .int .i64 (c : Nat) ∧ H' = H := by
    refine .hide fun Q hQ => .enter tab_24 (by simp [AF24]) (.inr (by simp [hz])) ?_
    simp -implicitDefEqProofs (disch := first | omega | with_unfolding_all exact eqR (Eq.refl _)) [nums, -getElem!_pos, -Int.natCast_add, -Int.natCast_mul, -Int.natCast_ediv, AF24, hf, hrem, load21]
    exact .mk (hQ _ _ ⟨rfl, rfl⟩)
  obtain ⟨e, H', h, rfl, rfl⟩ := this
  exact h
end
end Go.Mach.Ytl
set_option linter.unusedSimpArgs false
set_option linter.unusedVariables false
set_option maxRecDepth 100000
namespace Go.Mach.Ytl
open Go.Mach
theorem le_get {a b : Mo} : Mo.le a b ↔ ∀ q, q < 8 → a.get q ≤ b.get q := by
  unfold Mo.le
  constructor
  · rintro ⟨h0, h1, h2, h3, h4, h5, h6, h7⟩ q hq
    match q, hq with
    | 0, _ => exact h0
    | 1, _ => exact h1
    | 2, _ => exact h2
    | 3, _ => exact h3
    | 4, _ => exact h4
    | 5, _ => exact h5
    | 6, _ => exact h6
    | 7, _ => exact h7
  · intro h
    exact ⟨h 0 (by omega), h 1 (by omega), h 2 (by omega), h 3 (by omega), h 4 (by omega), h 5 (by omega), h 6 (by omega), h 7 (by omega)⟩
theorem nn_get {a : Mo} : a.nn ↔ ∀ q, q < 8 → 0 ≤ a.get q := by
  unfold Mo.nn
  constructor
  · rintro ⟨h0, h1, h2, h3, h4, h5, h6, h7⟩ q hq
    match q, hq with
    | 0, _ => exact h0
    | 1, _ => exact h1
    | 2, _ => exact h2
    | 3, _ => exact h3
    | 4, _ => exact h4
    | 5, _ => exact h5
    | 6, _ => exact h6
    | 7, _ => exact h7
  · intro h
    exact ⟨h 0 (by omega), h 1 (by omega), h 2 (by omega), h 3 (by omega), h 4 (by omega), h 5 (by omega), h 6 (by omega), h 7 (by omega)⟩
theorem map2_get {f : Int → Int → Int} {a b : Mo} {q : Nat} (h : q < 8) : (Mo.map2 f a b).get q = f (a.get q) (b.get q) := by
  match q, h with
  | 0, _ | 1, _ | 2, _ | 3, _ | 4, _ | 5, _ | 6, _ | 7, _ => rfl
theorem dvd_eq {a c : Mo} : dvd a c = decide (Mo.le a c) := by rw [Bool.eq_iff_iff, dvd_iff, decide_eq_true_eq]
theorem Box.nn {n : Nat} {a : Mo} (h : Box n a) : a.nn := nn_get.2 fun q _ => (h q).1
theorem max_nn {a b : Mo} (ha : a.nn) (hb : b.nn) : (Mo.map2 imax a b).nn := nn_get.2 fun q hq => by
  rw [map2_get hq]; have := nn_get.1 ha q hq; have := nn_get.1 hb q hq; unfold imax; split <;> omega
theorem lcms_mem {L M : List Mo} {x : Mo} : x ∈ lcms L M ↔ ∃ a ∈ L, ∃ b ∈ M, Mo.map2 imax a b = x := by simp [lcms]
theorem lcms_any {L M : List Mo} {t : Mo} : ((lcms L M).any fun x => decide (Mo.le x t)) = ((L.any fun x => decide (Mo.le x t)) && (M.any fun x => decide (Mo.le x t))) := by
  rw [Bool.eq_iff_iff, Bool.and_eq_true, List.any_eq_true, List.any_eq_true, List.any_eq_true]
  simp only [decide_eq_true_eq, lcms_mem]
  constructor
  · rintro ⟨x, ⟨a, ha, b, hb, rfl⟩, h⟩
    rw [max_le_iff] at h
    exact ⟨⟨a, ha, h.1⟩, b, hb, h.2⟩
  · rintro ⟨⟨a, ha, h1⟩, b, hb, h2⟩
    exact ⟨_, ⟨a, ha, b, hb, rfl⟩, max_le_iff.2 ⟨h1, h2⟩⟩
theorem IsMin.any_le {l r : List Mo} (h : IsMin l r) (hl : ∀ x ∈ l, x.nn) (y : Mo) : (r.any fun a => decide (Mo.le a y)) = l.any fun a => decide (Mo.le a y) := by
  have := h.any hl y
  simp only [dvd_eq] at this
  exact this.symm
theorem IsMin.self {l r : List Mo} (h : IsMin l r) : IsMin r r := ⟨h.desc, fun m => ⟨fun hm => ⟨hm, fun d hd hle => ((h.mem m).1 hm).2 d (h.sub hd) hle⟩, fun hm => hm.1⟩⟩
section
variable {s : List Jtm} {k : KF} {Q : AV → Heap → Prop}
end
end Go.Mach.Ytl
