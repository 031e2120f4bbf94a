/-
  What the list of all monomials is. By an AI agent.
  Law 12 (MonomialAll) in the machine. By an AI agent.
-/
import Derived.Test.YtlbihaiejbpjoaaPd
import Derived.Test.YtlbihaiejbpjoaaNn
set_option linter.unusedSimpArgs false
set_option linter.unusedVariables false
set_option maxRecDepth 100000
namespace Go.Mach.Ytl
open Go.Mach
/-- The number of choices with repetition, reckoned step by step. -/
def manyN (d : Nat) : Nat → Nat
  | 0 => 1
  | j + 1 => manyN d j * (d + (j + 1)) / (j + 1)
def manyL (n d : Nat) : Nat := if n = 0 ∧ 0 < d then 0 else manyN d (n - 1)
theorem many_le : ∀ d, d < 13 → ∀ j, j < 9 → manyN d j ≤ 200000 := by decide +kernel
def descB : List Mo → Bool
  | [] => true
  | a :: l => (match l with | [] => true | b :: _ => decide (Mo.cmp a b = 1)) && descB l
def okB (n d : Nat) (m : Mo) : Bool := decide (m.deg = (d : Int)) && decide m.valid && (List.range 8).all fun q => decide (q < n) || decide (m.get q = 0)
def chkL (n d : Nat) : Bool := (allL n d).length == manyL n d && descB (allL n d) && (allL n d).all (okB n d)
theorem chk_all : ∀ n, n < 9 → ∀ d, d < 13 → (n ≤ 4 ∨ d ≤ 4) → chkL n d = true := by decide +kernel
theorem descB_step : ∀ {l : List Mo}, descB l = true → ∀ i (h : i + 1 < l.length), Mo.cmp (l[i]'(by omega)) l[i + 1] = 1
  | [], _, i, h => by simp at h
  | [a], _, i, h => by simp at h
  | a :: b :: l, hd, i, h => by
    simp only [descB, Bool.and_eq_true, decide_eq_true_eq] at hd
    cases i with
    | zero => exact hd.1
    | succ i => exact descB_step (l := b :: l) (by simp only [descB, Bool.and_eq_true, decide_eq_true_eq]; exact hd.2) i (by simpa using h)
theorem all_facts {n d : Nat} (hn : n < 9) (hd : d < 13) (h : n ≤ 4 ∨ d ≤ 4) : (allL n d).length = manyL n d ∧ (∀ i (hi : i + 1 < (allL n d).length), Mo.cmp ((allL n d)[i]'(by omega)) (allL n d)[i + 1] = 1) ∧ ∀ m ∈ allL n d, m.deg = (d : Int) ∧ m.valid ∧ ∀ q, n ≤ q → q < 8 → m.get q = 0 := by
  have := chk_all n hn d hd h
  simp only [chkL, Bool.and_eq_true, beq_iff_eq, List.all_eq_true] at this
  refine ⟨this.1.1, descB_step this.1.2, fun m hm => ?_⟩
  have := this.2 m hm
  simp only [okB, Bool.and_eq_true, decide_eq_true_eq, List.all_eq_true, List.mem_range, Bool.or_eq_true] at this
  exact ⟨this.1.1, this.1.2, fun q h1 h2 => (this.2 q h2).resolve_left (by omega)⟩

/-! ### Each monomial of the degree is in the list -/
def sumF (m : Mo) : Nat → Nat → Int
  | _, 0 => 0
  | i, k + 1 => m.get i + sumF m (i + 1) k
theorem sumF_nn {m : Mo} (h : ∀ q, 0 ≤ m.get q) : ∀ k i, 0 ≤ sumF m i k
  | 0, _ => Int.le_refl _
  | k + 1, i => by have := sumF_nn h k (i + 1); have := h i; simp only [sumF]; omega
theorem sumF_snoc {m : Mo} : ∀ k i, sumF m i (k + 1) = sumF m i k + m.get (i + k)
  | 0, i => by simp [sumF]
  | k + 1, i => by
    have := sumF_snoc (m := m) k (i + 1)
    rw [sumF, this, sumF, show i + 1 + k = i + (k + 1) by omega]; omega
theorem sumF_congr {m m' : Mo} : ∀ k i, (∀ q, i ≤ q → q < i + k → m.get q = m'.get q) → sumF m i k = sumF m' i k
  | 0, _, _ => rfl
  | k + 1, i, h => by
    simp only [sumF]
    rw [h i (by omega) (by omega), sumF_congr k (i + 1) fun q h1 h2 => h q (by omega) (by omega)]
theorem mem_fill : ∀ (k i left : Nat) (m0 m : Mo), i + k ≤ 8 → Alike i k m m0 → (∀ q, 0 ≤ m.get q) → sumF m i k = left → m ∈ fillL k i left m0 := by
  intro k
  induction k with
  | zero =>
    intro i left m0 m hk ha hp hs
    have : m = m0 := Mo.ext' fun j hj => ha j hj (by omega)
    simp only [sumF] at hs
    subst this
    simp only [fillL]
    rw [if_pos (by omega)]
    exact List.mem_singleton.2 rfl
  | succ k ih =>
    intro i left m0 m hk ha hp hs
    simp only [sumF] at hs
    have h1 := sumF_nn hp k (i + 1)
    have h2 := hp i
    have step : Alike (i + 1) k m (m0.setI i (m.get i)) := by
      intro j hj hc
      rw [get_set (by omega)]
      by_cases hji : j = i
      · simp [hji]
      · rw [if_neg hji]; exact ha j hj (by omega)
    cases k with
    | zero =>
      simp only [fillL, List.mem_singleton]
      simp only [sumF] at hs
      have : m.get i = (left : Int) := by omega
      rw [← this]
      exact Mo.ext' fun j hj => step j hj (by omega)
    | succ k =>
      simp only [fillL, List.mem_flatMap, List.mem_reverse, List.mem_range]
      refine ⟨(m.get i).toNat, by omega, ih _ _ _ _ (by omega) ?_ hp (by omega)⟩
      rw [show (((m.get i).toNat : Nat) : Int) = m.get i by omega]
      exact step
end Go.Mach.Ytl
set_option linter.unusedSimpArgs false
set_option linter.unusedVariables false
set_option maxRecDepth 100000
namespace Go.Mach.Ytl
open Go.Mach
section
variable {s : List Jtm} {k : KF} {Q : AV → Heap → Prop}
theorem call_41' {a : Mo} {H : Heap} : callI tab 41 [mono a] H = some (.int .i64 a.deg, H) := callI_of (call_41 (n := 0))
theorem loadR {m : Mo} {i : Nat} (h : i < 8) : part false 1 m.rcells i = some (.int .u16 (m.get i)) := by
  rw [part_false]
  match i, h with
  | 0, _ | 1, _ | 2, _ | 3, _ | 4, _ | 5, _ | 6, _ | 7, _ => rfl
theorem ml_cell {v : AV} {l : List Mo} (hv : ML tM v l) (H : Heap) {i q : Nat} (hi : i < l.length) (hq : q < 8) : ∃ p r, iaddrA none 8 v (.int .i64 i) = some p ∧ iaddrA (some 8) 1 p (.int .i64 q) = some r ∧ loadA H false 1 r = some (.int .i64 (l[i].get q)) := by
  rcases hv with ⟨rfl, rfl⟩ | ⟨ex, rfl⟩
  · exact nomatch hi
  · refine ⟨.pv (tM.row l) (i * 8), .pv (tM.row l) (i * 8 + q * 1), ?_, ?_, ?_⟩
    · simp only [iaddrA]
      rw [if_pos ⟨by omega, by omega, row_ne tM hi⟩]
      simp
    · simp only [iaddrA]
      rw [if_pos ⟨by omega, by omega⟩]
      simp
    · rw [loadA_pv, part_false, Nat.mul_one]
      have h1 : part true 8 (tM.row l) (i * 8) = some (mono l[i]) := tM.row_part l i hi
      simp only [part, if_true] at h1
      split at h1
      · simp only [Option.some.injEq, mono, AV.agg.injEq] at h1
        have h2 : (((tM.row l).drop (i * 8)).take 8)[q]? = some (.int .i64 (l[i].get q)) := by rw [h1]; exact get_cells hq
        rw [List.getElem?_take, if_pos hq, List.getElem?_drop] at h2
        exact h2
      · cases h1

/-- The law's memory. -/
def hm (y m : Mo) (c : Nat) : Heap := { (Heap.empty.begin.new (.cells y.rcells none)).new (.cells m.cells none) with wc := c }
theorem hm_set {y m m' : Mo} {c : Nat} : (hm y m c).set 1 (.cells m'.cells none) = hm y m' (c + 1) := by
  unfold hm
  simp only [Heap.new, Heap.set, Heap.begin, Heap.empty]
  congr 1
  funext i
  simp only [upd]
  split <;> rfl
theorem hm_0 {y m : Mo} {c : Nat} : (hm y m c).obj 0 = .cells y.rcells none := rfl
theorem hm_1 {y m : Mo} {c : Nat} : (hm y m c).obj 1 = .cells m.cells none := rfl

theorem l12_1 {n d : Nat} (hn : n < 9) (hd : d < 13) {v5 v7 v10 v11 : AV} {H : Heap} : ∀ (r j : Nat) (σ : Sig), n - 1 - j = r → j ≤ n - 1 → σ 5 = v5 → σ 7 = v7 → σ 8 = .int .i64 (n : Nat) → σ 9 = .int .i64 (d : Nat) → σ 10 = v10 → σ 11 = v11 → σ 12 = .int .i64 (manyN d j : Nat) → σ 13 = .int .i64 (j + 1 : Nat) →
    (∀ σ', σ' 5 = v5 → σ' 7 = v7 → σ' 8 = .int .i64 (n : Nat) → σ' 9 = .int .i64 (d : Nat) → σ' 10 = v10 → σ' 11 = v11 → σ' 12 = .int .i64 (manyN d (n - 1) : Nat) → Res (ai (callI tab) s k .nrm σ' H) Q) → Res (li (callI tab) L12_1 (.inBlock 0 :: s) k σ H) Q := by
  intro r
  induction r with
  | zero =>
    intro j σ hr hj h5 h7 h8 h9 h10 h11 h12 h13 hQ
    have : j = n - 1 := by omega
    subst this
    have hc : ¬ (((n - 1 + 1 : Nat) : Int) < (n : Int)) := by omega
    obtain ⟨il, hil⟩ : ∃ x, x = Jtm.inLoop L12_1 := ⟨_, rfl⟩; rw [li_eq' il hil]
    simp -implicitDefEqProofs (disch := first | omega | with_unfolding_all exact eqR (Eq.refl _)) [nums, -getElem!_pos, -Int.natCast_add, -Int.natCast_mul, -Int.natCast_ediv, L12_1, S12_0, h5, h7, h8, h9, h10, h11, h12, h13, hc]
    subst hil
    try simp -implicitDefEqProofs (disch := first | omega | with_unfolding_all exact eqR (Eq.refl _)) [nums, -getElem!_pos, -Int.natCast_add, -Int.natCast_mul, -Int.natCast_ediv]
    refine hQ _ ?_ ?_ ?_ ?_ ?_ ?_ ?_ <;> simp [h5, h7, h8, h9, h10, h11, h12]
  | succ r ih =>
    intro j σ hr hj h5 h7 h8 h9 h10 h11 h12 h13 hQ
    have hc : (((j + 1 : Nat) : Int) < (n : Int)) := by omega
    have hb := many_le d hd j (by omega)
    have hmul : manyN d j * (d + (j + 1)) ≤ 200000 * 24 := Nat.mul_le_mul hb (by omega)
    have hz : (((j + 1 : Nat) : Int) = 0) = False := eq_false (by omega)
    have hqt : ((manyN d j * (d + (j + 1)) : Nat) : Int).tdiv ((j + 1 : Nat) : Int) = ((manyN d (j + 1) : Nat) : Int) := rfl
    have hb2 := many_le d hd (j + 1) (by omega)
    obtain ⟨il, hil⟩ : ∃ x, x = Jtm.inLoop L12_1 := ⟨_, rfl⟩; rw [li_eq' il hil]
    simp -implicitDefEqProofs (disch := first | omega | with_unfolding_all exact eqR (Eq.refl _)) [nums, -getElem!_pos, -Int.natCast_add, -Int.natCast_mul, -Int.natCast_ediv, L12_1, S12_0, h5, h7, h8, h9, h10, h11, h12, h13, hc, hz, hqt]
    subst hil
    try simp -implicitDefEqProofs (disch := first | omega | with_unfolding_all exact eqR (Eq.refl _)) [nums, -getElem!_pos, -Int.natCast_add, -Int.natCast_mul, -Int.natCast_ediv]
    refine ih (j + 1) _ (by omega) (by omega) ?_ ?_ ?_ ?_ ?_ ?_ ?_ ?_ hQ
    all_goals simp [h5, h7, h8, h9, h10, h11]

theorem l12_3 {n d : Nat} (hn : n < 9) (hd : d < 13) {y : Mo} (hy : y.valid) {v7 v10 : AV} : ∀ (r j left : Nat) (m : Mo) (c : Nat) (σ : Sig), n - j = r → j ≤ n → left ≤ d → σ 5 = .ptr 0 0 → σ 7 = v7 → σ 8 = .int .i64 (n : Nat) → σ 9 = .int .i64 (d : Nat) → σ 10 = v10 → σ 14 = .ptr 1 0 → σ 15 = .int .i64 (left : Nat) → σ 16 = .int .i64 (j : Nat) → (∀ q, 0 ≤ m.get q) → (∀ q, j ≤ q → m.get q = 0) → sumF m 0 j + left = d →
    (∀ σ' left' m' c', left' ≤ d → σ' 5 = .ptr 0 0 → σ' 7 = v7 → σ' 8 = .int .i64 (n : Nat) → σ' 9 = .int .i64 (d : Nat) → σ' 10 = v10 → σ' 14 = .ptr 1 0 → σ' 15 = .int .i64 (left' : Nat) → (∀ q, 0 ≤ m'.get q) → (∀ q, n ≤ q → m'.get q = 0) → sumF m' 0 n + left' = d → Res (ai (callI tab) s k .nrm σ' (hm y m' c')) Q) →
    Res (li (callI tab) L12_3 (.inBlock 2 :: s) k σ (hm y m c)) Q := by
  intro r
  induction r with
  | zero =>
    intro j left m c σ hr hj hle h5 h7 h8 h9 h10 h14 h15 h16 hp hz hs hQ
    have : j = n := by omega
    subst this
    obtain ⟨il, hil⟩ : ∃ x, x = Jtm.inLoop L12_3 := ⟨_, rfl⟩; rw [li_eq' il hil]
    simp -implicitDefEqProofs (disch := first | omega | with_unfolding_all exact eqR (Eq.refl _)) [nums, -getElem!_pos, -Int.natCast_add, -Int.natCast_mul, -Int.natCast_ediv, L12_3, S12_2, h5, h7, h8, h9, h10, h14, h15, h16]
    subst hil
    try simp -implicitDefEqProofs (disch := first | omega | with_unfolding_all exact eqR (Eq.refl _)) [nums, -getElem!_pos, -Int.natCast_add, -Int.natCast_mul, -Int.natCast_ediv]
    refine hQ _ left m c hle ?_ ?_ ?_ ?_ ?_ ?_ ?_ hp hz hs <;> simp [h5, h7, h8, h9, h10, h14, h15]
  | succ r ih =>
    intro j left m c σ hr hj hle h5 h7 h8 h9 h10 h14 h15 h16 hp hz hs hQ
    have hj8 : j < 8 := by omega
    have hyj := valid_get.1 hy j hj8
    obtain ⟨a, ha⟩ : ∃ a : Nat, y.get j = a := ⟨(y.get j).toNat, by omega⟩
    have hrem : ((a : Nat) : Int).tmod ((left + 1 : Nat) : Int) = ((a % (left + 1) : Nat) : Int) := rfl
    have hne : (((left + 1 : Nat) : Int) = 0) = False := eq_false (by omega)
    have hlt : a % (left + 1) < left + 1 := Nat.mod_lt _ (by omega)
    have hgs : (m.setI j ((a % (left + 1) : Nat) : Int)).get j = ((a % (left + 1) : Nat) : Int) := by rw [get_set hj8, if_pos rfl]
    generalize hx : a % (left + 1) = x at *
    have hb : y.get j ≤ 65535 := hyj.2
    rw [ha] at hb
    obtain ⟨il, hil⟩ : ∃ x, x = Jtm.inLoop L12_3 := ⟨_, rfl⟩; rw [li_eq' il hil]
    simp -implicitDefEqProofs (disch := first | omega | with_unfolding_all exact eqR (Eq.refl _)) [nums, -getElem!_pos, -Int.natCast_add, -Int.natCast_mul, -Int.natCast_ediv, L12_3, S12_2, h5, h7, h8, h9, h10, h14, h15, h16, hm_0, hm_1, iaddr_arr, loadR, ha, hrem, hne, storeI, hm_set, loadI, hgs]
    subst hil
    try simp -implicitDefEqProofs (disch := first | omega | with_unfolding_all exact eqR (Eq.refl _)) [nums, -getElem!_pos, -Int.natCast_add, -Int.natCast_mul, -Int.natCast_ediv]
    refine ih (j + 1) (left - x) (m.setI j (x : Nat)) _ _ (by omega) (by omega) (by omega) ?_ ?_ ?_ ?_ ?_ ?_ ?_ ?_ (fun q => ?_) (fun q hq => ?_) ?_ hQ
    any_goals (first | (simp [h5, h7, h8, h9, h10, h14]; done) | skip)
    · rw [get_set hj8]; split
      · omega
      · exact hp q
    · rw [get_set hj8, if_neg (by omega)]; exact hz q (by omega)
    · rw [sumF_snoc, Nat.zero_add, hgs, sumF_congr (m' := m) j 0 fun q h1 h2 => by rw [get_set hj8, if_neg (by omega)]]
      omega

theorem l12_6 {n : Nat} {v : AV} {l : List Mo} (hv : ML tM v l) {j : Nat} (hj : j < l.length) (hz : ∀ q, n ≤ q → q < 8 → l[j].get q = 0) {v7 v9 v14 v17 : AV} {H : Heap} : ∀ (r q : Nat) (σ : Sig), 8 - q = r → q ≤ 8 → n ≤ q → σ 7 = v7 → σ 8 = .int .i64 (n : Nat) → σ 9 = v9 → σ 10 = v → σ 14 = v14 → σ 17 = v17 → σ 18 = .int .i64 (j : Nat) → σ 19 = .int .i64 (q : Nat) →
    (∀ σ', σ' 7 = v7 → σ' 8 = .int .i64 (n : Nat) → σ' 9 = v9 → σ' 10 = v → σ' 14 = v14 → σ' 17 = v17 → σ' 18 = .int .i64 (j : Nat) → Res (ai (callI tab) s k .nrm σ' H) Q) →
    Res (li (callI tab) L12_6 (.inBlock 6 :: s) k σ H) Q := by
  intro r
  induction r with
  | zero =>
    intro q σ hr hq hnq h7 h8 h9 h10 h14 h17 h18 h19 hQ
    have : q = 8 := by omega
    subst this
    obtain ⟨il, hil⟩ : ∃ x, x = Jtm.inLoop L12_6 := ⟨_, rfl⟩; rw [li_eq' il hil]
    simp -implicitDefEqProofs (disch := first | omega | with_unfolding_all exact eqR (Eq.refl _)) [nums, -getElem!_pos, -Int.natCast_add, -Int.natCast_mul, -Int.natCast_ediv, L12_6, S12_5, S12_4, h7, h8, h9, h10, h14, h17, h18, h19]
    subst hil
    try simp -implicitDefEqProofs (disch := first | omega | with_unfolding_all exact eqR (Eq.refl _)) [nums, -getElem!_pos, -Int.natCast_add, -Int.natCast_mul, -Int.natCast_ediv]
    refine hQ _ ?_ ?_ ?_ ?_ ?_ ?_ ?_ <;> simp [h7, h8, h9, h10, h14, h17, h18]
  | succ r ih =>
    intro q σ hr hq hnq h7 h8 h9 h10 h14 h17 h18 h19 hQ
    obtain ⟨p, p2, e1, e2, e3⟩ := ml_cell hv H hj (show q < 8 by omega)
    have e4 := hz q hnq (by omega)
    have hc : ((q : Nat) : Int) < 8 := by omega
    obtain ⟨il, hil⟩ : ∃ x, x = Jtm.inLoop L12_6 := ⟨_, rfl⟩; rw [li_eq' il hil]
    simp -implicitDefEqProofs (disch := first | omega | with_unfolding_all exact eqR (Eq.refl _)) [nums, -getElem!_pos, -Int.natCast_add, -Int.natCast_mul, -Int.natCast_ediv, L12_6, S12_5, S12_4, h7, h8, h9, h10, h14, h17, h18, h19, e1, e2, e3, e4, hc]
    subst hil
    try simp -implicitDefEqProofs (disch := first | omega | with_unfolding_all exact eqR (Eq.refl _)) [nums, -getElem!_pos, -Int.natCast_add, -Int.natCast_mul, -Int.natCast_ediv]
    refine ih (q + 1) _ (by omega) (by omega) (by omega) ?_ ?_ ?_ ?_ ?_ ?_ ?_ ?_ hQ
    all_goals simp [h7, h8, h9, h10, h14, h17, h18]

theorem l12_11 {n d : Nat} {v : AV} {l : List Mo} (hv : ML tM v l) (hn : n < 9) (hl40 : l.length < 2 ^ 40) (hst : ∀ i (hi : i + 1 < l.length), Mo.cmp (l[i]'(by omega)) l[i + 1] = 1) (hel : ∀ m ∈ l, m.deg = (d : Int) ∧ m.valid ∧ ∀ q, n ≤ q → q < 8 → m.get q = 0) {y m : Mo} {c : Nat} {v7 : AV} : ∀ (r j : Nat) (f : Bool) (σ : Sig), l.length - j = r → j ≤ l.length → σ 7 = v7 → σ 8 = .int .i64 (n : Nat) → σ 9 = .int .i64 (d : Nat) → σ 10 = v → σ 14 = .ptr 1 0 → σ 17 = .bool f → σ 18 = .int .i64 (j : Nat) →
    (∀ σ', σ' 7 = v7 → σ' 17 = .bool (f || (l.drop j).any fun a => decide (a = m)) → Res (ai (callI tab) s k .nrm σ' (hm y m c)) Q) →
    Res (li (callI tab) L12_11 (.inBlock 4 :: s) k σ (hm y m c)) Q := by
  intro r
  have hln := (hv.rd (hm y m c)).1
  induction r with
  | zero =>
    intro j f σ hr hj h7 h8 h9 h10 h14 h17 h18 hQ
    rw [List.drop_of_length_le (by omega)] at hQ
    obtain ⟨il, hil⟩ : ∃ x, x = Jtm.inLoop L12_11 := ⟨_, rfl⟩; rw [li_eq' il hil]
    simp -implicitDefEqProofs (disch := first | omega | with_unfolding_all exact eqR (Eq.refl _)) [nums, -getElem!_pos, -Int.natCast_add, -Int.natCast_mul, -Int.natCast_ediv, L12_11, S12_10, h7, h8, h9, h10, h14, h17, h18, hln]
    subst hil
    try simp -implicitDefEqProofs (disch := first | omega | with_unfolding_all exact eqR (Eq.refl _)) [nums, -getElem!_pos, -Int.natCast_add, -Int.natCast_mul, -Int.natCast_ediv]
    refine hQ _ ?_ ?_ <;> simp [h7, h17]
  | succ r ih =>
    intro j f σ hr hj h7 h8 h9 h10 h14 h17 h18 hQ
    have hjl : j < l.length := by omega
    obtain ⟨p, e1, e2⟩ := ml_at hv (hm y m c) hjl
    obtain ⟨d1, d2, d3⟩ := hel l[j] (List.getElem_mem _)
    have hany : (l.drop j).any (fun a => decide (a = m)) = (decide (l[j] = m) || (l.drop (j + 1)).any fun a => decide (a = m)) := by rw [List.drop_eq_getElem_cons hjl, List.any_cons]
    rw [hany] at hQ
    have hld : part true 8 m.cells 0 = some (mono m) := rfl
    have go : ∀ il σ', il = Jtm.inLoop L12_11 → σ' 7 = v7 → σ' 8 = .int .i64 (n : Nat) → σ' 9 = .int .i64 (d : Nat) → σ' 10 = v → σ' 14 = .ptr 1 0 → σ' 17 = .bool f → σ' 18 = .int .i64 (j : Nat) → Res (gi (callI tab) S12_8 (.inBlock 5 :: .code S12_9 :: il :: .inBlock 4 :: s) k σ' (hm y m c)) Q := by
      intro il σ' hil h7 h8 h9 h10 h14 h17 h18
      simp -implicitDefEqProofs (disch := first | omega | with_unfolding_all exact eqR (Eq.refl _)) [nums, -getElem!_pos, -Int.natCast_add, -Int.natCast_mul, -Int.natCast_ediv, S12_8, h7, h8, h9, h10, h14, h17, h18]
      refine l12_6 (v7 := v7) (v9 := .int .i64 (d : Nat)) (v14 := .ptr 1 0) (v17 := .bool f) hv hjl d3 _ n _ rfl (by omega) (Nat.le_refl _) ?_ ?_ ?_ ?_ ?_ ?_ ?_ ?_ fun σ2 b7 b8 b9 b10 b14 b17 b18 => ?_
      any_goals (first | (simp [h7, h8, h9, h10, h14, h17, h18]; done) | skip)
      cases f with
      | true =>
        simp -implicitDefEqProofs (disch := first | omega | with_unfolding_all exact eqR (Eq.refl _)) [nums, -getElem!_pos, -Int.natCast_add, -Int.natCast_mul, -Int.natCast_ediv, S12_7, S12_9, b7, b8, b9, b10, b14, b17, b18, e1, e2, hm_1, hld]
        subst hil
        try simp -implicitDefEqProofs (disch := first | omega | with_unfolding_all exact eqR (Eq.refl _)) [nums, -getElem!_pos, -Int.natCast_add, -Int.natCast_mul, -Int.natCast_ediv]
        refine ih (j + 1) true _ (by omega) (by omega) ?_ ?_ ?_ ?_ ?_ ?_ ?_ (by simpa using hQ)
        all_goals simp [b7, b8, b9, b10, b14, b17, b18]
      | false =>
        by_cases he : l[j] = m
        · simp -implicitDefEqProofs (disch := first | omega | with_unfolding_all exact eqR (Eq.refl _)) [nums, -getElem!_pos, -Int.natCast_add, -Int.natCast_mul, -Int.natCast_ediv, S12_7, S12_9, b7, b8, b9, b10, b14, b17, b18, e1, e2, hm_1, hld, he]
          subst hil
          try simp -implicitDefEqProofs (disch := first | omega | with_unfolding_all exact eqR (Eq.refl _)) [nums, -getElem!_pos, -Int.natCast_add, -Int.natCast_mul, -Int.natCast_ediv]
          refine ih (j + 1) true _ (by omega) (by omega) ?_ ?_ ?_ ?_ ?_ ?_ ?_ (by simpa [he] using hQ)
          all_goals simp [b7, b8, b9, b10, b14, b17, b18]
        · simp -implicitDefEqProofs (disch := first | omega | with_unfolding_all exact eqR (Eq.refl _)) [nums, -getElem!_pos, -Int.natCast_add, -Int.natCast_mul, -Int.natCast_ediv, S12_7, S12_9, b7, b8, b9, b10, b14, b17, b18, e1, e2, hm_1, hld, he]
          subst hil
          try simp -implicitDefEqProofs (disch := first | omega | with_unfolding_all exact eqR (Eq.refl _)) [nums, -getElem!_pos, -Int.natCast_add, -Int.natCast_mul, -Int.natCast_ediv]
          refine ih (j + 1) false _ (by omega) (by omega) ?_ ?_ ?_ ?_ ?_ ?_ ?_ (by simpa [he] using hQ)
          all_goals simp [b7, b8, b9, b10, b14, b17, b18]
    cases j with
    | zero =>
      have e1' : iaddrA none 8 v (.int .i64 0) = some p := e1
      obtain ⟨il, hil⟩ : ∃ x, x = Jtm.inLoop L12_11 := ⟨_, rfl⟩; rw [li_eq' il hil]
      simp -implicitDefEqProofs (disch := first | omega | with_unfolding_all exact eqR (Eq.refl _)) [nums, -getElem!_pos, -Int.natCast_add, -Int.natCast_mul, -Int.natCast_ediv, L12_11, S12_10, h7, h8, h9, h10, h14, h17, h18, hln, e1', e2, call_41', call_45', d1, d2]
      refine go _ _ hil ?_ ?_ ?_ ?_ ?_ ?_ ?_
      all_goals simp [h7, h8, h9, h10, h14, h17, h18]
    | succ j =>
      obtain ⟨p0, e3, e4⟩ := ml_at hv (hm y m c) (show j < l.length by omega)
      have d4 := hst j hjl
      obtain ⟨il, hil⟩ : ∃ x, x = Jtm.inLoop L12_11 := ⟨_, rfl⟩; rw [li_eq' il hil]
      simp -implicitDefEqProofs (disch := first | omega | with_unfolding_all exact eqR (Eq.refl _)) [nums, -getElem!_pos, -Int.natCast_add, -Int.natCast_mul, -Int.natCast_ediv, L12_11, S12_10, h7, h8, h9, h10, h14, h17, h18, hln, e1, e2, e3, e4, call_41', call_45', call_35', d1, d2, d4]
      refine go _ _ hil ?_ ?_ ?_ ?_ ?_ ?_ ?_
      all_goals simp [h7, h8, h9, h10, h14, h17, h18]

/-- From the call of All on. -/
theorem tail12 {n d : Nat} (hn : n < 9) (hd : d < 13) (hnd : n ≤ 4 ∨ d ≤ 4) {y : Mo} (hy : y.valid) (hQ : ∀ H, Q (.bool true) H) {σ : Sig} (h5 : σ 5 = .ptr 0 0) (h7 : σ 7 = .bool true) (h8 : σ 8 = .int .i64 (n : Nat)) (h9 : σ 9 = .int .i64 (d : Nat)) : Res (gi (callI tab) S12_17 [] (fink [.tmp 6] true Heap.empty) σ (Heap.empty.begin.new (.cells y.rcells none))) Q := by
  simp -implicitDefEqProofs (disch := first | omega | with_unfolding_all exact eqR (Eq.refl _)) [nums, -getElem!_pos, -Int.natCast_add, -Int.natCast_mul, -Int.natCast_ediv, S12_17, h8, h9]
  refine .call (call_46 (n := n) (d := d) (by omega) (by omega)) fun e H2 ⟨hH, v, he, hml⟩ => ?_
  subst he hH
  obtain ⟨f1, f2, f3⟩ := all_facts hn hd hnd
  simp -implicitDefEqProofs (disch := first | omega | with_unfolding_all exact eqR (Eq.refl _)) [nums, -getElem!_pos, -Int.natCast_add, -Int.natCast_mul, -Int.natCast_ediv, h5, h7, h8, h9]
  refine l12_1 (n := n) (d := d) (v5 := .ptr 0 0) (v7 := .bool true) (v10 := v) (v11 := .int .i64 0) hn hd _ 0 _ rfl (by omega) ?_ ?_ ?_ ?_ ?_ ?_ ?_ ?_ fun σ1 a5 a7 a8 a9 a10 a11 a12 => ?_
  any_goals (first | (simp [h5, h7, h8, h9, manyN]; done) | skip)
  have hlen := fun H => (hml.rd H).1
  have rest : ∀ σ2 : Sig, σ2 5 = .ptr 0 0 → σ2 7 = .bool true → σ2 8 = .int .i64 (n : Nat) → σ2 9 = .int .i64 (d : Nat) → σ2 10 = v → σ2 11 = .int .i64 0 → σ2 12 = .int .i64 (manyL n d : Nat) → Res (gi (callI tab) S12_15 [] (fink [.tmp 6] true Heap.empty) σ2 (Heap.empty.begin.new (.cells y.rcells none))) Q := by
    intro σ2 b5 b7 b8 b9 b10 b11 b12
    rw [f1] at hlen
    have hf0 : fillA Mo.zero.cells [] = some Mo.zero.cells := rfl
    have hag : AV.agg Mo.zero.cells = mono Mo.zero := rfl
    simp -implicitDefEqProofs (disch := first | omega | with_unfolding_all exact eqR (Eq.refl _)) [nums, -getElem!_pos, -Int.natCast_add, -Int.natCast_mul, -Int.natCast_ediv, S12_15, b5, b7, b8, b9, b10, b11, b12, hlen, S12_14, hf0, hag, storeZ]
    have hh : ((Heap.empty.begin.new (.cells y.rcells none)).new (.cells Mo.zero.cells none)).set 1 (.cells Mo.zero.cells none) = hm y Mo.zero 1 := hm_set (m := Mo.zero) (m' := Mo.zero) (c := 0)
    rw [hh]
    have hz0 : ∀ q, Mo.zero.get q = 0 := fun q => by
      match q with
      | 0 | 1 | 2 | 3 | 4 | 5 | 6 | 7 => rfl
      | q + 8 => rfl
    refine l12_3 (n := n) (d := d) (v7 := .bool true) (v10 := v) hn hd hy _ 0 d Mo.zero 1 _ rfl (by omega) (Nat.le_refl _) ?_ ?_ ?_ ?_ ?_ ?_ ?_ ?_ (fun q => by rw [hz0]; omega) (fun q _ => hz0 q) (by simp [sumF]) fun σ3 left m c hle c5 c7 c8 c9 c10 c14 c15 hp hz hs => ?_
    any_goals (first | (simp [b5, b7, b8, b9, b10, b11, b12]; done) | skip)
    have fin : ∀ (m' : Mo) (c' : Nat) (f : Bool) (σ4 : Sig), (f = true ∨ (allL n d).any (fun a => decide (a = m')) = true) → σ4 7 = .bool true → σ4 8 = .int .i64 (n : Nat) → σ4 9 = .int .i64 (d : Nat) → σ4 10 = v → σ4 14 = .ptr 1 0 → σ4 17 = .bool f → σ4 18 = .int .i64 (0 : Nat) → Res (li (callI tab) L12_11 (.inBlock 4 :: [.code S12_12]) (fink [.tmp 6] true Heap.empty) σ4 (hm y m' c')) Q := by
      intro m' c' f σ4 hf g7 g8 g9 g10 g14 g17 g18
      refine l12_11 (n := n) (d := d) (v := v) (l := allL n d) (m := m') (v7 := .bool true) hml hn (by have := many_le d hd (n - 1) (by omega); rw [f1]; unfold manyL; split <;> omega) f2 f3 _ 0 f σ4 rfl (by omega) g7 g8 g9 g10 g14 g17 g18 fun σ5 i7 i17 => ?_
      have hft : (f || ((allL n d).drop 0).any fun a => decide (a = m')) = true := by
        rcases hf with h | h
        · simp [h]
        · rw [List.drop_zero, h, Bool.or_true]
      rw [hft] at i17
      simp -implicitDefEqProofs (disch := first | omega | with_unfolding_all exact eqR (Eq.refl _)) [nums, -getElem!_pos, -Int.natCast_add, -Int.natCast_mul, -Int.natCast_ediv, S12_12, i7, i17]
      exact .mk (hQ _)
    cases n with
    | zero =>
      have hmx : mmA true (.int .i64 (IntKind.i64.wrap (-1))) [.int .i64 0] = some (.int .i64 0) := by rw [show IntKind.i64.wrap (-1) = -1 by decide +kernel]; rfl
      obtain ⟨e, he⟩ : ∃ e : Nat, m.get 0 = e := ⟨(m.get 0).toNat, by have := hp 0; omega⟩
      have he0 := hz 0 (Nat.le_refl _)
      have hia : iaddrA (some 8) 1 (.ptr 1 0) (.int .i64 0) = some (.ptr 1 0) := rfl
      simp -implicitDefEqProofs (disch := first | omega | with_unfolding_all exact eqR (Eq.refl _)) [nums, -getElem!_pos, -Int.natCast_add, -Int.natCast_mul, -Int.natCast_ediv, S12_13, c5, c7, c8, c9, c10, c14, c15, hmx, hia, hm_1, loadI, storeI, he0, hm_set]
      refine fin _ _ true _ (.inl rfl) ?_ ?_ ?_ ?_ ?_ ?_ ?_
      all_goals simp [c7, c8, c9, c10, c14]
    | succ n =>
      have hmx : mmA true (.int .i64 (n : Nat)) [.int .i64 0] = some (.int .i64 (n : Nat)) := by
        simp only [mmA]
        first | rfl | (simp; omega)
      obtain ⟨e, he⟩ : ∃ e : Nat, m.get n = e := ⟨(m.get n).toNat, by have := hp n; omega⟩
      have hs2 := hs
      rw [sumF_snoc, Nat.zero_add, he] at hs2
      have hs3 := sumF_nn hp n 0
      have hed : e + left ≤ 12 := by omega
      have hn8 : n < 8 := by omega
      simp -implicitDefEqProofs (disch := first | omega | with_unfolding_all exact eqR (Eq.refl _)) [nums, -getElem!_pos, -Int.natCast_add, -Int.natCast_mul, -Int.natCast_ediv, S12_13, c5, c7, c8, c9, c10, c14, c15, hmx, iaddr_arr, hm_1, loadI, storeI, he, hm_set]
      refine fin (m.setI n ((e + left : Nat) : Int)) _ false _ (.inr ?_) ?_ ?_ ?_ ?_ ?_ ?_ ?_
      any_goals (first | (simp [c7, c8, c9, c10, c14]; done) | skip)
      rw [List.any_eq_true]
      refine ⟨m.setI n ((e + left : Nat) : Int), mem_fill (n + 1) 0 d Mo.zero _ (by omega) (fun q h1 h2 => ?_) (fun q => ?_) ?_, by simp⟩
      · rw [hz0, get_set hn8, if_neg (by omega)]; exact hz q (by omega)
      · rw [get_set hn8]; split
        · omega
        · exact hp q
      · rw [sumF_snoc, Nat.zero_add, get_set hn8, if_pos rfl, sumF_congr (m' := m) n 0 fun q h1 h2 => by rw [get_set hn8, if_neg (by omega)]]
        omega
  by_cases hn0 : n = 0
  · subst hn0
    by_cases hd0 : 0 < d
    · simp -implicitDefEqProofs (disch := first | omega | with_unfolding_all exact eqR (Eq.refl _)) [nums, -getElem!_pos, -Int.natCast_add, -Int.natCast_mul, -Int.natCast_ediv, S12_16, a5, a7, a8, a9, a10, a11, a12, hd0]
      refine rest _ ?_ ?_ ?_ ?_ ?_ ?_ ?_
      all_goals simp [a5, a7, a8, a9, a10, a11, manyL, hd0]
    · simp -implicitDefEqProofs (disch := first | omega | with_unfolding_all exact eqR (Eq.refl _)) [nums, -getElem!_pos, -Int.natCast_add, -Int.natCast_mul, -Int.natCast_ediv, S12_16, a5, a7, a8, a9, a10, a11, a12, hd0]
      refine rest _ ?_ ?_ ?_ ?_ ?_ ?_ ?_
      all_goals simp [a5, a7, a8, a9, a10, a11, a12, manyL, hd0]
  · simp -implicitDefEqProofs (disch := first | omega | with_unfolding_all exact eqR (Eq.refl _)) [nums, -getElem!_pos, -Int.natCast_add, -Int.natCast_mul, -Int.natCast_ediv, S12_16, a5, a7, a8, a9, a10, a11, a12, hn0]
    refine rest _ ?_ ?_ ?_ ?_ ?_ ?_ ?_
    all_goals simp [a5, a7, a8, a9, a10, a11, a12, manyL, hn0]
theorem law12 {a b : Nat} {y : Mo} (ha : a < 256) (hb : b < 256) (hy : y.valid) : Res (callI tab 12 [.int .u8 a, .int .u8 b, raw y] Heap.empty) fun e _ => e = .bool true := by
  refine .hide fun Q hQ => .enter tab_12 (by simp [AF12]) (.inr (by simp)) ?_
  have hs : callI tab 27 [] (Heap.empty.begin.new (.cells y.rcells none)) = some (.bool true, Heap.empty.begin.new (.cells y.rcells none)) := callI_of (san1 _)
  obtain ⟨n, hn⟩ : ∃ n, n = a % 9 := ⟨_, rfl⟩
  obtain ⟨d, hd⟩ : ∃ d, d = b % 13 := ⟨_, rfl⟩
  obtain ⟨d2, hd2⟩ : ∃ d2, d2 = d % 5 := ⟨_, rfl⟩
  have r9 : ((a : Nat) : Int).tmod 9 = (n : Nat) := by rw [hn]; rfl
  have r13 : ((b : Nat) : Int).tmod 13 = (d : Nat) := by rw [hd]; rfl
  have r5 : ((d : Nat) : Int).tmod 5 = (d2 : Nat) := by rw [hd2]; rfl
  by_cases h4 : 4 < n
  · have h4' : (4 : Int) < (n : Nat) := by omega
    simp -implicitDefEqProofs (disch := first | omega | with_unfolding_all exact eqR (Eq.refl _)) [nums, -getElem!_pos, -Int.natCast_add, -Int.natCast_mul, -Int.natCast_ediv, AF12, hs, S12_18, r9, r13, r5, h4']
    refine tail12 (n := n) (d := d2) (by omega) (by omega) (by omega) hy (fun H => hQ _ _ rfl) ?_ ?_ ?_ ?_
    all_goals simp
  · have h4' : ¬ (4 : Int) < (n : Nat) := by omega
    simp -implicitDefEqProofs (disch := first | omega | with_unfolding_all exact eqR (Eq.refl _)) [nums, -getElem!_pos, -Int.natCast_add, -Int.natCast_mul, -Int.natCast_ediv, AF12, hs, S12_18, r9, r13, r5, h4']
    refine tail12 (n := n) (d := d) (by omega) (by omega) (by omega) hy (fun H => hQ _ _ rfl) ?_ ?_ ?_ ?_
    all_goals simp
end
end Go.Mach.Ytl
