/-
  Pruned copy of the text Si. By an AI agent.
-/
import Derived.Test.YtlbihaiejbpjoaaZ4Vb
import Derived.Test.YtlbihaiejbpjoaaZ4Sh
set_option linter.unusedSimpArgs false
set_option linter.unusedVariables false
set_option maxRecDepth 100000
namespace Go.Mach.Ytl
open Go.Mach
section
variable {s : List Jtm} {k : KF} {Q : AV → Heap → Prop}
attribute [local simp] guardI_u
theorem AF77_eq : ∃ p : ByteArray, AF77 = ⟨(.seq (.ops [A0 2 (.mv (ci 0))]) (.seq (.ops [M0 3 0, A0 4 (.idxs (.c (.str p)) (.t 3)), A0 5 (.cvi .i64 (.t 4)), M0 2 5]) .ret)), [(.tmp 2)], 6, true, true⟩ ∧ ∀ i, i < 256 → p[i]? = some (UInt8.ofNat (onesN i)) := ⟨_, rfl, by decide +kernel⟩
def ixS (H : Heap) (x i : AV) : Option AV := pureA (fun o => match o with | .t 0 => x | _ => i) H (.idxs (.t 0) (.t 1))
theorem pureA_idxs {f : AOpd → AV} {H : Heap} {x i : AOpd} : pureA f H (.idxs x i) = ixS H (f x) (f i) := rfl
attribute [local simp ↓ high] pureA_idxs
theorem call_77 {x : Nat} (hx : x < 256) {H : Heap} : callI tab 77 [.int .u8 (x : Nat)] H = some (.int .i64 (onesN x : Nat), H) := by
  obtain ⟨p, e, hp⟩ := AF77_eq
  have h1 := hp x hx
  have hle : onesN x ≤ 8 := onesTo_le 8
  have hix : ∀ H, ixS H (.str p) (.int .u8 (x : Nat)) = some (.int .u8 (onesN x : Nat)) := fun H => by
    simp only [ixS, pureA]
    rw [if_pos (by omega), Int.toNat_natCast, h1]
    simp only
    rw [show (UInt8.ofNat (onesN x)).toNat = onesN x by rw [UInt8.toNat_ofNat']; omega]
  have t77 : tab 77 = some ⟨(.seq (.ops [A0 2 (.mv (ci 0))]) (.seq (.ops [M0 3 0, A0 4 (.idxs (.c (.str p)) (.t 3)), A0 5 (.cvi .i64 (.t 4)), M0 2 5]) .ret)), [(.tmp 2)], 6, true, true⟩ := by rw [tab_77, e]
  refine callI_enter t77 (by simp) (.inr (by simp)) ?_
  simp -implicitDefEqProofs (disch := first | omega | with_unfolding_all exact eqR (Eq.refl _)) [nums, -getElem!_pos, -Int.natCast_add, -Int.natCast_mul, -Int.natCast_ediv, hix]
theorem bits_all : ((List.range 16).all fun t => (List.range 4).all fun i => ((andK .i64 (shrK .i64 (t : Nat) (i : Nat)) 1 == 1) == t.testBit i) && (orK .i64 (t : Nat) (shlK .i64 1 (i : Nat)) == ((t ||| 2 ^ i : Nat) : Int))) = true := by decide +kernel
theorem bits_of {t i : Nat} (ht : t < 16) (hi : i < 4) : (andK .i64 (shrK .i64 (t : Nat) (i : Nat)) 1 == 1) = t.testBit i ∧ orK .i64 (t : Nat) (shlK .i64 1 (i : Nat)) = ((t ||| 2 ^ i : Nat) : Int) := by
  have := (List.all_eq_true.1 ((List.all_eq_true.1 bits_all) t (by simpa using ht))) i (by simpa using hi)
  rw [Bool.and_eq_true, beq_iff_eq, beq_iff_eq] at this
  exact this
theorem shl_one : ∀ n, n < 5 → shlK .i64 1 (n : Nat) = ((2 ^ n : Nat) : Int) := by decide +kernel
theorem l97_z {g : Nat} {v : AV} {l : List Mo} {H : Heap} (hv : Rd tM H v l) (hp : ∀ a ∈ l, callI tab g [mono a] H = some (.bool false, H)) (hl : l.length < 2 ^ 40) {H0 : Heap} : ∀ (m i : Nat) (σ : Sig), l.length - i = m → i ≤ l.length →
    σ 0 = v → σ 1 = .fn g [] [] → σ 7 = .int .i64 l.length → σ 8 = .int .i64 i →
    Res (some (wrapA H0 (.int .i64 (-1)) H)) Q →
    Res (li (callI tab) L97_2 [.inBlock 0, .code S97_3] (fink [.tmp 4] false H0) σ H) Q := by
  intro m
  induction m with
  | zero =>
    intro i σ hm hi h0 h1 h7 h8 hQ
    obtain ⟨il, hil⟩ : ∃ x, x = Jtm.inLoop L97_2 := ⟨_, rfl⟩; rw [li_eq' il hil]
    simp -implicitDefEqProofs (disch := first | omega | with_unfolding_all exact eqR (Eq.refl _)) [nums, -getElem!_pos, -Int.natCast_add, -Int.natCast_mul, -Int.natCast_ediv, L97_2, S97_0, S97_1, h0, h1, h7, h8]
    subst hil
    try simp -implicitDefEqProofs (disch := first | omega | with_unfolding_all exact eqR (Eq.refl _)) [nums, -getElem!_pos, -Int.natCast_add, -Int.natCast_mul, -Int.natCast_ediv, S97_3]
    exact hQ
  | succ m ih =>
    intro i σ hm hi h0 h1 h7 h8 hQ
    have hlt : i < l.length := by omega
    obtain ⟨q, e1, e2⟩ := hv.2 i hlt
    have e1' : iaddrA none 8 v (.int .i64 (i : Nat)) = some q := e1
    have e2' : loadA H true 8 q = some (mono l[i]) := e2
    have hc := hp l[i] (List.getElem_mem hlt)
    obtain ⟨il, hil⟩ : ∃ x, x = Jtm.inLoop L97_2 := ⟨_, rfl⟩; rw [li_eq' il hil]
    simp -implicitDefEqProofs (disch := first | omega | with_unfolding_all exact eqR (Eq.refl _)) [nums, -getElem!_pos, -Int.natCast_add, -Int.natCast_mul, -Int.natCast_ediv, L97_2, S97_0, S97_1, h0, h1, h7, h8, e1', e2', hc]
    subst hil
    try simp -implicitDefEqProofs (disch := first | omega | with_unfolding_all exact eqR (Eq.refl _)) [nums, -getElem!_pos, -Int.natCast_add, -Int.natCast_mul, -Int.natCast_ediv]
    refine ih (i + 1) _ (by omega) (by omega) ?_ ?_ ?_ ?_ hQ
    all_goals simp [h0, h1, h7, h8]
theorem call_97f {g : Nat} {v : AV} {l : List Mo} {H : Heap} (hv : Rd tM H v l) (hp : ∀ a ∈ l, ∀ H, callI tab g [mono a] H = some (.bool false, H)) (hl : l.length < 2 ^ 40) : callI tab 97 [v, .fn g [] []] H = some (.int .i64 (-1), H) := by
  have : Res (callI tab 97 [v, .fn g [] []] H) fun e H' => e = .int .i64 (-1) ∧ H' = H := by
    refine .hide fun Q hQ => .enter tab_97 (by simp [AF97]) (.inl rfl) ?_
    have hln' : lenA H.begin 1 v = some (.int .i64 l.length) := hv.1
    simp -implicitDefEqProofs (disch := first | omega | with_unfolding_all exact eqR (Eq.refl _)) [nums, -getElem!_pos, -Int.natCast_add, -Int.natCast_mul, -Int.natCast_ediv, AF97, hln']
    refine l97_z (g := g) (H := H.begin) (v := v) hv (fun a ha => hp a ha _) hl _ 0 _ rfl (by omega) ?_ ?_ ?_ ?_ ?_
    any_goals (first | (simp; done) | skip)
    try rw [wrap_begin rfl]
    exact .mk (hQ _ _ ⟨rfl, rfl⟩)
  obtain ⟨e, H', h, rfl, rfl⟩ := this
  exact h
theorem call_64f {g : Nat} {v : AV} {l : List Mo} {H : Heap} (hv : Rd tM H v l) (hp : ∀ a ∈ l, ∀ H, callI tab g [mono a] H = some (.bool false, H)) (hl : l.length < 2 ^ 40) : callI tab 64 [v, .fn g [] []] H = some (.bool false, H) := by
  refine callI_enter tab_64 (by simp [AF64]) (.inl rfl) ?_
  have hc := call_97f (g := g) (H := H.begin) (v := v) hv hp hl
  simp -implicitDefEqProofs (disch := first | omega | with_unfolding_all exact eqR (Eq.refl _)) [nums, -getElem!_pos, -Int.natCast_add, -Int.natCast_mul, -Int.natCast_ediv, AF64, hc]
theorem mm_max {k : IntKind} {x y : Int} : mmA true (.int k x) [.int k y] = some (.int k (imax x y)) := by
  simp [mmA, mm2, imax]
theorem l122_1 {b : Nat} {m : Mo} (hm3 : ∀ q, m.get q ≤ 3) {H : Heap} (ho : H.obj b = .cells m.cells none) {H0 : Heap} : ∀ (r j : Nat) (σ : Sig) (x : Int), 8 - j = r → j ≤ 8 → σ 0 = .sl b 0 8 8 true 1 → σ 3 = .int .i64 x → σ 4 = .int .i64 (j : Nat) → x ≤ 3 →
    (∀ x, x ≤ 3 → Res (some (wrapA H0 (.int .i64 x) H)) Q) →
    Res (li (callI tab) L122_1 [.inBlock 0, .code S122_2] (fink [.tmp 2] false H0) σ H) Q := by
  intro r
  induction r with
  | zero =>
    intro j σ x hr hj h0 h3 h4 hx hQ
    have : j = 8 := by omega
    subst this
    obtain ⟨il, hil⟩ : ∃ x, x = Jtm.inLoop L122_1 := ⟨_, rfl⟩; rw [li_eq' il hil]
    simp -implicitDefEqProofs (disch := first | omega | with_unfolding_all exact eqR (Eq.refl _)) [nums, -getElem!_pos, -Int.natCast_add, -Int.natCast_mul, -Int.natCast_ediv, L122_1, h0, h3, h4]
    subst hil
    try simp -implicitDefEqProofs (disch := first | omega | with_unfolding_all exact eqR (Eq.refl _)) [nums, -getElem!_pos, -Int.natCast_add, -Int.natCast_mul, -Int.natCast_ediv, S122_2, h3]
    exact hQ x hx
  | succ r ih =>
    intro j σ x hr hj h0 h3 h4 hx hQ
    have hj8 : j < 8 := by omega
    have hc : ((j : Nat) : Int) < 8 := by omega
    obtain ⟨il, hil⟩ : ∃ x, x = Jtm.inLoop L122_1 := ⟨_, rfl⟩; rw [li_eq' il hil]
    simp -implicitDefEqProofs (disch := first | omega | with_unfolding_all exact eqR (Eq.refl _)) [nums, -getElem!_pos, -Int.natCast_add, -Int.natCast_mul, -Int.natCast_ediv, L122_1, S122_0, h0, h3, h4, hc, ho, loadI, mm_max]
    subst hil
    try simp -implicitDefEqProofs (disch := first | omega | with_unfolding_all exact eqR (Eq.refl _)) [nums, -getElem!_pos, -Int.natCast_add, -Int.natCast_mul, -Int.natCast_ediv]
    refine ih (j + 1) _ (imax x (m.get j)) (by omega) (by omega) ?_ ?_ ?_ (by have := hm3 j; unfold imax; split <;> omega) hQ
    all_goals simp [h0]
theorem call_122 {b : Nat} {m : Mo} (hm3 : ∀ q, m.get q ≤ 3) {H : Heap} (ho : H.obj b = .cells m.cells none) : Res (callI tab 122 [.sl b 0 8 8 true 1] H) fun e H' => H' = H ∧ ∃ x, e = .int .i64 x ∧ x ≤ 3 := by
  refine .hide fun Q hQ => .enter tab_122 (by simp [AF122]) (.inl rfl) ?_
  have i0 : iaddrA none 1 (.sl b 0 8 8 true 1) (.int .i64 0) = some (.ptr b 0) := rfl
  have l0 : part false 1 m.cells 0 = some (.int .i64 (m.get 0)) := loadI (by omega)
  simp -implicitDefEqProofs (disch := first | omega | with_unfolding_all exact eqR (Eq.refl _)) [nums, -getElem!_pos, -Int.natCast_add, -Int.natCast_mul, -Int.natCast_ediv, AF122, S122_3, i0, ho, l0]
  refine l122_1 hm3 (H := H.begin) ho _ 1 _ (m.get 0) rfl (by omega) ?_ ?_ ?_ (hm3 0) fun x hx => ?_
  any_goals (first | (simp; done) | skip)
  try rw [wrap_begin rfl]
  exact .mk (hQ _ _ ⟨rfl, x, rfl, hx⟩)
theorem call_121 {a : Mo} (ha : ∀ q, a.get q ≤ 3) {H : Heap} : callI tab 121 [mono a] H = some (.bool false, H) := by
  have : Res (callI tab 121 [mono a] H) fun e H' => e = .bool false ∧ H' = H := by
    refine .hide fun Q hQ => .enter tab_121 (by simp [AF121]) (.inr (by simp)) ?_
    have hsl : slcA (H.begin.new (.cells a.cells none)) (.arr 8) 1 (.ptr H.next 0) none none none = some (.sl H.next 0 8 8 true 1) := by
      simp [slcA, Heap.read, Heap.new, upd, bnds, bnd, Mo.cells]
    simp -implicitDefEqProofs (disch := first | omega | with_unfolding_all exact eqR (Eq.refl _)) [nums, -getElem!_pos, -Int.natCast_add, -Int.natCast_mul, -Int.natCast_ediv, AF121, hsl]
    refine .call (call_122 (m := a) ha (by simp [Heap.new, upd])) fun e H2 ⟨hH, x, he, hx⟩ => ?_
    subst hH he
    have h64 : ¬ (64 : Int) < x := by omega
    simp -implicitDefEqProofs (disch := first | omega | with_unfolding_all exact eqR (Eq.refl _)) [nums, -getElem!_pos, -Int.natCast_add, -Int.natCast_mul, -Int.natCast_ediv, h64]
    exact .mk (hQ _ _ ⟨rfl, rfl⟩)
  obtain ⟨e, H', h, rfl, rfl⟩ := this
  exact h
theorem call_120 {b n : Nat} : PredM 120 b (.cells [.int .i64 (n : Nat)] none) (fun m => !decide m.valid || decide (n < len8 (supN m))) := by
  intro a H hb ho
  refine callI_enter tab_120 (by simp [AF120]) (.inr (by simp)) ?_
  have hne : b ≠ H.next := by omega
  have hs := supN_lt a
  have c66 := fun H => call_66 hs (H := H)
  have c45 := fun H => call_45' (a := a) (H := H)
  have c43 := fun H => call_43' (a := a) (H := H)
  by_cases hv : a.valid
  · simp -implicitDefEqProofs (disch := first | omega | with_unfolding_all exact eqR (Eq.refl _)) [nums, -getElem!_pos, -Int.natCast_add, -Int.natCast_mul, -Int.natCast_ediv, AF120, ldM, load1, ho, hne, c45, c43, c66, hv]
  · simp -implicitDefEqProofs (disch := first | omega | with_unfolding_all exact eqR (Eq.refl _)) [nums, -getElem!_pos, -Int.natCast_add, -Int.natCast_mul, -Int.natCast_ediv, AF120, ldM, load1, ho, hne, c45, c43, c66, hv]
theorem call_104 {v : AV} {L : List Mo} {n : Nat} {H : Heap} (hv : ML tM v L) (hn : n ≤ 8) (hL : ∀ m ∈ L, Box n m) (hl : L.length ≤ 12) : callI tab 104 [v, .int .i64 n] H = some (.int .i64 0, H) := by
  have hf := hv.frz
  have hln := fun H => (hv.rd H).1
  have hany : (L.any fun m => !decide m.valid || decide (n < len8 (supN m))) = false := by
    rw [List.any_eq_false]
    intro m hm
    have h2 := (len_sup (m := m) (n := n) (by omega)).2 fun q _ h => by have := (hL m hm q).2.2 h; omega
    rw [decide_eq_true (hL m hm).valid]
    simp; omega
  have c64 := call_64 (b := H.next) (call_120 (n := n)) (H := H.begin.new (.cells [.int .i64 (n : Nat)] none)) (hv.rd _) (by show H.next < H.next + 1; omega) (by simp) (by omega)
  rw [hany] at c64
  have c64' := call_64f (g := 121) (H := H.begin.new (.cells [.int .i64 (n : Nat)] none)) (hv.rd _) (fun a ha H => call_121 (H := H) fun q => by have := hL a ha q; omega) (by omega)
  have hn8 : ¬ (8 : Int) < (n : Nat) := by omega
  have hL12 : ¬ (12 : Int) < (L.length : Nat) := by omega
  refine callI_enter tab_104 (by simp [AF104]) (.inr (by simp [hf])) ?_
  simp -implicitDefEqProofs (disch := first | omega | with_unfolding_all exact eqR (Eq.refl _)) [nums, -getElem!_pos, -Int.natCast_add, -Int.natCast_mul, -Int.natCast_ediv, AF104, load1, hn8, c64, S104_1, hln, hL12, c64', S104_0]
theorem call_106 {b t : Nat} : PredM 106 b (.cells [.int .i64 (t : Nat)] none) (fun m => andNotK .i64 (supN m : Nat) (t : Nat) == 0) := by
  intro a H hb ho
  refine callI_enter tab_106 (by simp [AF106]) (.inr (by simp)) ?_
  have hne : b ≠ H.next := by omega
  have hs := supN_lt a
  have c43 := fun H => call_43' (a := a) (H := H)
  have hw : IntKind.i64.wrap ((supN a : Nat) : Int) = (supN a : Nat) := wrap_nat (by omega)
  simp -implicitDefEqProofs (disch := first | omega | with_unfolding_all exact eqR (Eq.refl _)) [nums, -getElem!_pos, -Int.natCast_add, -Int.natCast_mul, -Int.natCast_ediv, AF106, ldM, load1, ho, hne, c43, hw]
theorem call_105 {v : AV} {L : List Mo} {b t : Nat} {H : Heap} (hv : ML tM v L) (hl : L.length < 2 ^ 40) (hb : b < H.next) (ho : H.obj b = .cells [v] none) : callI tab 105 [.int .i64 (t : Nat), .ptr b 0] H = some (.bool (indB L t), H) := by
  refine callI_enter tab_105 (by simp [AF105]) (.inr (by simp)) ?_
  have hne : b ≠ H.next := by omega
  have c64 := call_64 (b := H.next) (call_106 (t := t)) (H := H.begin.new (.cells [.int .i64 (t : Nat)] none)) (hv.rd _) (by show H.next < H.next + 1; omega) (by simp) hl
  have hst : (!(L.any fun m => andNotK .i64 (supN m : Nat) (t : Nat) == 0)) = indB L t := rfl
  simp -implicitDefEqProofs (disch := first | omega | with_unfolding_all exact eqR (Eq.refl _)) [nums, -getElem!_pos, -Int.natCast_add, -Int.natCast_mul, -Int.natCast_ediv, AF105, load1, ho, hne, c64, hst]
theorem l76_1 {v x8 x20 : AV} {L : List Mo} {n t b2 : Nat} (hn : n ≤ 4) (ht : t < 16) (hv : ML tM v L) (hl : L.length < 2 ^ 40) {H : Heap} (hb : b2 < H.next) (ho : H.obj b2 = .cells [v] none) : ∀ (m j : Nat) (σ : Sig) (f : Bool), n - j = m → j ≤ n → σ 1 = .int .i64 (n : Nat) → σ 7 = .fn 105 [] [.ptr b2 0] → σ 8 = x8 → σ 20 = x20 → σ 21 = .int .i64 (t : Nat) → σ 9 = .int .i64 (t : Nat) → σ 10 = .bool f → σ 11 = .int .i64 (j : Nat) → f = (indB L t && (List.range j).all fun i => t.testBit i || !indB L (t ||| 2 ^ i)) →
    (∀ σ', σ' 1 = .int .i64 (n : Nat) → σ' 7 = .fn 105 [] [.ptr b2 0] → σ' 8 = x8 → σ' 20 = x20 → σ' 21 = .int .i64 (t : Nat) → σ' 9 = .int .i64 (t : Nat) → σ' 10 = .bool (maxB L n t) → Res (ai (callI tab) s k .nrm σ' H) Q) →
    Res (li (callI tab) L76_1 (.inBlock 2 :: s) k σ H) Q := by
  intro m
  have hend : ∀ (σ : Sig) (j : Nat) (f : Bool), (f = false ∨ n ≤ j) → j ≤ n → f = (indB L t && (List.range j).all fun i => t.testBit i || !indB L (t ||| 2 ^ i)) → f = maxB L n t := fun σ j f h hj hf => by
    rcases h with h | h
    · subst h
      symm
      rw [eq_comm, Bool.and_eq_false_iff] at hf
      unfold maxB
      rw [Bool.and_eq_false_iff]
      rcases hf with hf | hf
      · exact .inl hf
      · right
        rw [List.all_eq_false] at hf ⊢
        obtain ⟨i, hi, h2⟩ := hf
        exact ⟨i, by simp at hi ⊢; omega, h2⟩
    · have : j = n := by omega
      subst this; exact hf
  induction m with
  | zero =>
    intro j σ f hm hj h1 h7 h8 h20 h21 h9 h10 h11 hf hQ
    have he := hend σ j f (.inr (by omega)) hj hf
    have hjn : j = n := by omega
    subst hjn
    cases hfc : f with
    | true =>
      rw [hfc] at h10
      obtain ⟨il, hil⟩ : ∃ x, x = Jtm.inLoop L76_1 := ⟨_, rfl⟩; rw [li_eq' il hil]
      simp -implicitDefEqProofs (disch := first | omega | with_unfolding_all exact eqR (Eq.refl _)) [nums, -getElem!_pos, -Int.natCast_add, -Int.natCast_mul, -Int.natCast_ediv, L76_1, h1, h7, h8, h20, h21, h9, h10, h11]
      subst hil
      try simp -implicitDefEqProofs (disch := first | omega | with_unfolding_all exact eqR (Eq.refl _)) [nums, -getElem!_pos, -Int.natCast_add, -Int.natCast_mul, -Int.natCast_ediv]
      refine hQ _ ?_ ?_ ?_ ?_ ?_ ?_ (by rw [← he, hfc]; simp [h10]) <;> simp [h1, h7, h8, h20, h21, h9]
    | false =>
      rw [hfc] at h10
      obtain ⟨il, hil⟩ : ∃ x, x = Jtm.inLoop L76_1 := ⟨_, rfl⟩; rw [li_eq' il hil]
      simp -implicitDefEqProofs (disch := first | omega | with_unfolding_all exact eqR (Eq.refl _)) [nums, -getElem!_pos, -Int.natCast_add, -Int.natCast_mul, -Int.natCast_ediv, L76_1, h1, h7, h8, h20, h21, h9, h10, h11]
      subst hil
      try simp -implicitDefEqProofs (disch := first | omega | with_unfolding_all exact eqR (Eq.refl _)) [nums, -getElem!_pos, -Int.natCast_add, -Int.natCast_mul, -Int.natCast_ediv]
      refine hQ _ ?_ ?_ ?_ ?_ ?_ ?_ (by rw [← he, hfc]; simp [h10]) <;> simp [h1, h7, h8, h20, h21, h9]
  | succ m ih =>
    intro j σ f hm hj h1 h7 h8 h20 h21 h9 h10 h11 hf hQ
    have hjl : j < n := by omega
    cases hfc : f with
    | false =>
      have he := hend σ j f (.inl hfc) hj hf
      rw [hfc] at h10
      obtain ⟨il, hil⟩ : ∃ x, x = Jtm.inLoop L76_1 := ⟨_, rfl⟩; rw [li_eq' il hil]
      simp -implicitDefEqProofs (disch := first | omega | with_unfolding_all exact eqR (Eq.refl _)) [nums, -getElem!_pos, -Int.natCast_add, -Int.natCast_mul, -Int.natCast_ediv, L76_1, h1, h7, h8, h20, h21, h9, h10, h11]
      subst hil
      try simp -implicitDefEqProofs (disch := first | omega | with_unfolding_all exact eqR (Eq.refl _)) [nums, -getElem!_pos, -Int.natCast_add, -Int.natCast_mul, -Int.natCast_ediv]
      refine hQ _ ?_ ?_ ?_ ?_ ?_ ?_ (by rw [← he, hfc]; simp [h10]) <;> simp [h1, h7, h8, h20, h21, h9]
    | true =>
      rw [hfc] at h10 hf
      obtain ⟨b1, b3⟩ := bits_of ht (show j < 4 by omega)
      have c105 := call_105 (t := t ||| 2 ^ j) hv hl hb ho
      have hf2 : (t.testBit j || !indB L (t ||| 2 ^ j)) = (indB L t && (List.range (j + 1)).all fun i => t.testBit i || !indB L (t ||| 2 ^ i)) := by
        rw [List.range_succ, List.all_append, ← Bool.and_assoc, ← hf]; simp
      generalize (t ||| 2 ^ j : Nat) = t2 at b3 c105 hf2
      cases hbit : t.testBit j with
      | true =>
        rw [hbit, Bool.true_or] at hf2
        rw [hbit] at b1
        obtain ⟨il, hil⟩ : ∃ x, x = Jtm.inLoop L76_1 := ⟨_, rfl⟩; rw [li_eq' il hil]
        simp -implicitDefEqProofs (disch := first | omega | with_unfolding_all exact eqR (Eq.refl _)) [nums, -getElem!_pos, -Int.natCast_add, -Int.natCast_mul, -Int.natCast_ediv, L76_1, S76_0, h1, h7, h8, h20, h21, h9, h10, h11, b1]
        subst hil
        try simp -implicitDefEqProofs (disch := first | omega | with_unfolding_all exact eqR (Eq.refl _)) [nums, -getElem!_pos, -Int.natCast_add, -Int.natCast_mul, -Int.natCast_ediv]
        refine ih (j + 1) _ true (by omega) (by omega) ?_ ?_ ?_ ?_ ?_ ?_ ?_ ?_ hf2 hQ
        all_goals simp [h1, h7, h8, h20, h21, h9]
      | false =>
        rw [hbit, Bool.false_or] at hf2
        rw [hbit] at b1
        obtain ⟨il, hil⟩ : ∃ x, x = Jtm.inLoop L76_1 := ⟨_, rfl⟩; rw [li_eq' il hil]
        simp -implicitDefEqProofs (disch := first | omega | with_unfolding_all exact eqR (Eq.refl _)) [nums, -getElem!_pos, -Int.natCast_add, -Int.natCast_mul, -Int.natCast_ediv, L76_1, S76_0, h1, h7, h8, h20, h21, h9, h10, h11, b1, b3, c105]
        subst hil
        try simp -implicitDefEqProofs (disch := first | omega | with_unfolding_all exact eqR (Eq.refl _)) [nums, -getElem!_pos, -Int.natCast_add, -Int.natCast_mul, -Int.natCast_ediv]
        refine ih (j + 1) _ (!indB L t2) (by omega) (by omega) ?_ ?_ ?_ ?_ ?_ ?_ ?_ ?_ hf2 hQ
        all_goals simp [h1, h7, h8, h20, h21, h9]
theorem l76_5 {v : AV} {L : List Mo} {n b2 : Nat} (hn : n ≤ 4) (hv : ML tM v L) (hl : L.length < 2 ^ 40) {H0 : Heap} (hb : H0.base ≤ H0.next) (hb2 : b2 < H0.next) (ho2 : H0.obj b2 = .cells [v] none) : ∀ (m j : Nat) (σ : Sig) (H : Heap) (w : AV), 2 ^ n - j = m → j ≤ 2 ^ n → σ 1 = .int .i64 (n : Nat) → σ 7 = .fn 105 [] [.ptr b2 0] → σ 8 = w → σ 20 = .int .i64 (2 ^ n : Nat) → σ 21 = .int .i64 (j : Nat) → Acc tB H0 H w (((List.range j).filter (maxB L n)).map fun s : Nat => ((s : Nat) : Int)) → Ow H0 H →
    (∀ σ' H' w', σ' 8 = w' → Acc tB H0 H' w' (((List.range (2 ^ n)).filter (maxB L n)).map fun s : Nat => ((s : Nat) : Int)) → Ow H0 H' → Res (ai (callI tab) s k .nrm σ' H') Q) →
    Res (li (callI tab) L76_5 (.inBlock 0 :: s) k σ H) Q := by
  intro m
  have h16 : 2 ^ n ≤ 16 := by
    have : 2 ^ n ≤ 2 ^ 4 := Nat.pow_le_pow_right (by omega) hn
    omega
  generalize hN : 2 ^ n = N at *
  induction m with
  | zero =>
    intro j σ H w hm hj h1 h7 h8 h20 h21 ha ho hQ
    have : j = N := by omega
    subst this
    obtain ⟨il, hil⟩ : ∃ x, x = Jtm.inLoop L76_5 := ⟨_, rfl⟩; rw [li_eq' il hil]
    simp -implicitDefEqProofs (disch := first | omega | with_unfolding_all exact eqR (Eq.refl _)) [nums, -getElem!_pos, -Int.natCast_add, -Int.natCast_mul, -Int.natCast_ediv, L76_5, h1, h7, h8, h20, h21]
    subst hil
    try simp -implicitDefEqProofs (disch := first | omega | with_unfolding_all exact eqR (Eq.refl _)) [nums, -getElem!_pos, -Int.natCast_add, -Int.natCast_mul, -Int.natCast_ediv]
    refine hQ _ _ w ?_ ha ho
    simp [h8]
  | succ m ih =>
    intro j σ H w hm hj h1 h7 h8 h20 h21 ha ho hQ
    have hjl : j < N := by omega
    have hnx := ho.next
    have o2 : H.obj b2 = .cells [v] none := by rw [ho.obj b2 hb2]; exact ho2
    have c105 := call_105 (t := j) hv hl (by omega) o2
    have hr : (List.range (j + 1)).filter (maxB L n) = (List.range j).filter (maxB L n) ++ if maxB L n j then [j] else [] := by
      rw [List.range_succ, List.filter_append]
      congr 1
      by_cases h : maxB L n j = true
      · rw [if_pos h, List.filter_cons_of_pos h]; rfl
      · rw [if_neg h, List.filter_cons_of_neg h]; rfl
    have hfl : ((List.range j).filter (maxB L n)).length ≤ j := by have := List.length_filter_le (maxB L n) (List.range j); simpa using this
    obtain ⟨il, hil⟩ : ∃ x, x = Jtm.inLoop L76_5 := ⟨_, rfl⟩; rw [li_eq' il hil]
    simp -implicitDefEqProofs (disch := first | omega | with_unfolding_all exact eqR (Eq.refl _)) [nums, -getElem!_pos, -Int.natCast_add, -Int.natCast_mul, -Int.natCast_ediv, L76_5, S76_4, h1, h7, h8, h20, h21, c105]
    refine l76_1 (n := n) (t := j) hn (by omega) hv hl (H := H) (by omega) o2 (x8 := w) (x20 := .int .i64 (N : Nat)) _ 0 _ (indB L j) rfl (by omega) ?_ ?_ ?_ ?_ ?_ ?_ ?_ ?_ (by simp) fun σ1 g1 g7 g8 g20 g21 g9 g10 => ?_
    any_goals (first | (simp [h1, h7, h8, h20, h21]; done) | skip)
    cases hmx : maxB L n j with
    | true =>
      rw [hmx] at g10
      rw [hmx, if_pos rfl] at hr
      obtain ⟨w', H', e3, ha', ho'⟩ := ha.app (m := [((j : Nat) : Int)]) (bs := 1) (ex := true) (n := 1) ho hb (by simp) rfl (by simp; omega)
      have e3' : appA H 1 1 w (.vec 1 true [.int .u8 (j : Nat)]) = some (w', H') := e3
      have hw8 : IntKind.u8.wrap ((j : Nat) : Int) = (j : Nat) := wrap8 (by omega)
      simp -implicitDefEqProofs (disch := first | omega | with_unfolding_all exact eqR (Eq.refl _)) [nums, -getElem!_pos, -Int.natCast_add, -Int.natCast_mul, -Int.natCast_ediv, S76_2, S76_3, g1, g7, g8, g20, g21, g9, g10, hw8, bslR_u8, e3']
      subst hil
      try simp -implicitDefEqProofs (disch := first | omega | with_unfolding_all exact eqR (Eq.refl _)) [nums, -getElem!_pos, -Int.natCast_add, -Int.natCast_mul, -Int.natCast_ediv]
      refine ih (j + 1) _ H' w' (by omega) (by omega) ?_ ?_ ?_ ?_ ?_ (by rw [hr, List.map_append]; exact ha') ho' hQ
      all_goals simp [g1, g7, g20]
    | false =>
      rw [hmx] at g10
      rw [hmx] at hr
      simp only [Bool.false_eq_true, if_false, List.append_nil] at hr
      simp -implicitDefEqProofs (disch := first | omega | with_unfolding_all exact eqR (Eq.refl _)) [nums, -getElem!_pos, -Int.natCast_add, -Int.natCast_mul, -Int.natCast_ediv, S76_2, S76_3, g1, g7, g8, g20, g21, g9, g10]
      subst hil
      try simp -implicitDefEqProofs (disch := first | omega | with_unfolding_all exact eqR (Eq.refl _)) [nums, -getElem!_pos, -Int.natCast_add, -Int.natCast_mul, -Int.natCast_ediv]
      refine ih (j + 1) _ H w (by omega) (by omega) ?_ ?_ ?_ ?_ ?_ (by rw [hr]; exact ha) ho hQ
      all_goals simp [g1, g7, g8, g20]
theorem call_76 {v : AV} {L : List Mo} {n : Nat} {H : Heap} (hv : ML tM v L) (hn : n ≤ 4) (hL : ∀ m ∈ L, Box n m) (hl : L.length ≤ 12) : Res (callI tab 76 [v, .int .i64 n] H) fun e H' => H' = H ∧ ∃ w, e = .tup [w, .int .i64 0] ∧ ML tB w (((List.range (2 ^ n)).filter (maxB L n)).map fun s : Nat => ((s : Nat) : Int)) := by
  have hf := hv.frz
  have hfl := hv.flat
  have c104 := fun H => call_104 (H := H) hv (by omega) hL hl
  have hsh := shl_one n (by omega)
  refine .hide fun Q hQ => .enter tab_76 (by simp [AF76]) (.inr (by simp [hf])) ?_
  simp -implicitDefEqProofs (disch := first | omega | with_unfolding_all exact eqR (Eq.refl _)) [nums, -getElem!_pos, -Int.natCast_add, -Int.natCast_mul, -Int.natCast_ediv, AF76, hfl, load1, c104, S76_7, hsh]
  refine l76_5 hn hv (by omega) (H0 := H.begin.new (.cells [v] none)) (b2 := H.next) (by show H.next ≤ H.next + 1; omega) (by show H.next < H.next + 1; omega) (by simp [Heap.new, upd]) _ 0 _ _ .nils rfl (Nat.zero_le _) ?_ ?_ ?_ ?_ ?_ .nil (.refl _) fun σ' H' w' q8 ha ho => ?_
  any_goals (first | (simp; done) | skip)
  obtain ⟨e, H2, hz, hml, ho2⟩ := ha.frz ho (by show H.next ≤ H.next + 1; omega) (show H.next ≤ H.next + 1 by omega) 4
  have hnn := hml.nonew H.next 2
  have hws : H2.ws = [] := ho2.ws
  have hq : (AV.tup [e, .int .i64 0]).noNew H.next 4 = true := by simp [hnn]
  have hz' : Mach.frz H.next 5 H' w' = some (e, H2) := hz
  simp -implicitDefEqProofs (disch := first | omega | with_unfolding_all exact eqR (Eq.refl _)) [nums, -getElem!_pos, -Int.natCast_add, -Int.natCast_mul, -Int.natCast_ediv, S76_6, q8, hz', wrap_quiet hws hq]
  exact .mk (hQ _ _ ⟨rfl, e, rfl, hml⟩)
theorem l25_1 {vS : AV} {S : List Nat} (hv : ML tB vS (S.map fun s : Nat => ((s : Nat) : Int))) (h8 : ∀ s ∈ S, s < 256) (hl : S.length < 2 ^ 20) {H : Heap} : ∀ (m j : Nat) (σ : Sig) (d : Int), S.length - j = m → j ≤ S.length → σ 8 = .int .i64 d → σ 20 = vS → σ 21 = .int .i64 (S.length : Nat) → σ 22 = .int .i64 (j : Nat) →
    (∀ σ', σ' 8 = .int .i64 ((S.drop j).foldl (fun d s => imax d (onesN s : Nat)) d) → Res (ai (callI tab) s k .nrm σ' H) Q) →
    Res (li (callI tab) L25_1 (.inBlock 0 :: s) k σ H) Q := by
  intro m
  induction m with
  | zero =>
    intro j σ d hm hj e8 h20 h21 h22 hQ
    rw [List.drop_of_length_le (by omega)] at hQ
    obtain ⟨il, hil⟩ : ∃ x, x = Jtm.inLoop L25_1 := ⟨_, rfl⟩; rw [li_eq' il hil]
    simp -implicitDefEqProofs (disch := first | omega | with_unfolding_all exact eqR (Eq.refl _)) [nums, -getElem!_pos, -Int.natCast_add, -Int.natCast_mul, -Int.natCast_ediv, L25_1, e8, h20, h21, h22]
    subst hil
    try simp -implicitDefEqProofs (disch := first | omega | with_unfolding_all exact eqR (Eq.refl _)) [nums, -getElem!_pos, -Int.natCast_add, -Int.natCast_mul, -Int.natCast_ediv]
    refine hQ _ ?_
    simp [e8]
  | succ m ih =>
    intro j σ d hm hj e8 h20 h21 h22 hQ
    have hjl : j < S.length := by omega
    obtain ⟨p, e1, e2⟩ := mb_at hv H (i := j) (by simpa using hjl)
    rw [List.getElem_map] at e2
    have c77 := fun H => call_77 (h8 _ (List.getElem_mem hjl)) (H := H)
    rw [List.drop_eq_getElem_cons hjl, List.foldl_cons] at hQ
    obtain ⟨il, hil⟩ : ∃ x, x = Jtm.inLoop L25_1 := ⟨_, rfl⟩; rw [li_eq' il hil]
    simp -implicitDefEqProofs (disch := first | omega | with_unfolding_all exact eqR (Eq.refl _)) [nums, -getElem!_pos, -Int.natCast_add, -Int.natCast_mul, -Int.natCast_ediv, L25_1, S25_0, e8, h20, h21, h22, e1, e2, c77, mm_max]
    subst hil
    try simp -implicitDefEqProofs (disch := first | omega | with_unfolding_all exact eqR (Eq.refl _)) [nums, -getElem!_pos, -Int.natCast_add, -Int.natCast_mul, -Int.natCast_ediv]
    refine ih (j + 1) _ _ (by omega) (by omega) ?_ ?_ ?_ ?_ hQ
    all_goals simp [h20, h21]
theorem call_25 {v : AV} {L : List Mo} {n : Nat} {H : Heap} (hv : ML tM v L) (hn : n ≤ 4) (hL : ∀ m ∈ L, Box n m) (hl : L.length ≤ 12) : Res (callI tab 25 [v, .int .i64 n] H) fun e H' => H' = H ∧ e = .tup [.int .i64 (dimF ((List.range (2 ^ n)).filter (maxB L n))), .int .i64 0] := by
  have hf := hv.frz
  have h16 : 2 ^ n ≤ 16 := by
    have : 2 ^ n ≤ 2 ^ 4 := Nat.pow_le_pow_right (by omega) hn
    omega
  have hfl : ((List.range (2 ^ n)).filter (maxB L n)).length ≤ 2 ^ n := by have := List.length_filter_le (maxB L n) (List.range (2 ^ n)); simpa using this
  refine .hide fun Q hQ => .enter tab_25 (by simp [AF25]) (.inr (by simp [hf])) ?_
  simp -implicitDefEqProofs (disch := first | omega | with_unfolding_all exact eqR (Eq.refl _)) [nums, -getElem!_pos, -Int.natCast_add, -Int.natCast_mul, -Int.natCast_ediv, AF25]
  refine .call (call_76 hv hn hL hl) fun e H1 ⟨hH, w, he, hml⟩ => ?_
  subst hH he
  have h8 : ∀ s ∈ (List.range (2 ^ n)).filter (maxB L n), s < 256 := fun s hs => by
    have := (List.mem_filter.1 hs).1
    simp at this; omega
  have hdr : ((List.range (2 ^ n)).filter (maxB L n)).drop 0 = (List.range (2 ^ n)).filter (maxB L n) := List.drop_zero
  unfold dimF at hQ
  generalize (List.range (2 ^ n)).filter (maxB L n) = S at *
  have hln := fun H => (hml.rd H).1
  have hSl : (S.map fun s : Nat => ((s : Nat) : Int)).length = S.length := List.length_map _
  rw [hSl] at hln
  simp -implicitDefEqProofs (disch := first | omega | with_unfolding_all exact eqR (Eq.refl _)) [nums, -getElem!_pos, -Int.natCast_add, -Int.natCast_mul, -Int.natCast_ediv, S25_3, hln]
  refine l25_1 hml h8 (by omega) _ 0 _ (-1) rfl (by omega) ?_ ?_ ?_ ?_ fun σ' q8 => ?_
  any_goals (first | (simp; done) | skip)
  rw [hdr] at q8
  generalize S.foldl (fun d s => imax d (onesN s : Nat)) (-1) = D at *
  simp -implicitDefEqProofs (disch := first | omega | with_unfolding_all exact eqR (Eq.refl _)) [nums, -getElem!_pos, -Int.natCast_add, -Int.natCast_mul, -Int.natCast_ediv, S25_2, q8]
  exact .mk (hQ _ _ ⟨rfl, rfl⟩)
theorem l4_1 {vS x3 x5 x8 : AV} {S : List Nat} (hv : ML tB vS (S.map fun s : Nat => ((s : Nat) : Int))) (h8 : ∀ s ∈ S, s < 256) (hl : S.length < 2 ^ 20) {H : Heap} : ∀ (m j : Nat) (σ : Sig) (d : Int), S.length - j = m → j ≤ S.length → σ 3 = x3 → σ 5 = x5 → σ 6 = vS → σ 8 = x8 → σ 10 = .int .i64 d → σ 11 = .int .i64 (j : Nat) →
    (∀ σ', σ' 3 = x3 → σ' 5 = x5 → σ' 8 = x8 → σ' 10 = .int .i64 ((S.drop j).foldl (fun d s => imin d (onesN s : Nat)) d) → Res (ai (callI tab) s k .nrm σ' H) Q) →
    Res (li (callI tab) L4_1 (.inBlock 0 :: s) k σ H) Q := by
  intro m
  have hln := (hv.rd H).1
  rw [List.length_map] at hln
  induction m with
  | zero =>
    intro j σ d hm hj h3 h5 h6 e8 h10 h11 hQ
    rw [List.drop_of_length_le (by omega)] at hQ
    obtain ⟨il, hil⟩ : ∃ x, x = Jtm.inLoop L4_1 := ⟨_, rfl⟩; rw [li_eq' il hil]
    simp -implicitDefEqProofs (disch := first | omega | with_unfolding_all exact eqR (Eq.refl _)) [nums, -getElem!_pos, -Int.natCast_add, -Int.natCast_mul, -Int.natCast_ediv, L4_1, h3, h5, h6, e8, h10, h11, hln]
    subst hil
    try simp -implicitDefEqProofs (disch := first | omega | with_unfolding_all exact eqR (Eq.refl _)) [nums, -getElem!_pos, -Int.natCast_add, -Int.natCast_mul, -Int.natCast_ediv]
    refine hQ _ ?_ ?_ ?_ ?_ <;> simp [h3, h5, e8, h10]
  | succ m ih =>
    intro j σ d hm hj h3 h5 h6 e8 h10 h11 hQ
    have hjl : j < S.length := by omega
    obtain ⟨p, e1, e2⟩ := mb_at hv H (i := j) (by simpa using hjl)
    rw [List.getElem_map] at e2
    have c26 := fun H => call_26 (h8 _ (List.getElem_mem hjl)) (H := H)
    rw [List.drop_eq_getElem_cons hjl, List.foldl_cons] at hQ
    obtain ⟨il, hil⟩ : ∃ x, x = Jtm.inLoop L4_1 := ⟨_, rfl⟩; rw [li_eq' il hil]
    simp -implicitDefEqProofs (disch := first | omega | with_unfolding_all exact eqR (Eq.refl _)) [nums, -getElem!_pos, -Int.natCast_add, -Int.natCast_mul, -Int.natCast_ediv, L4_1, S4_0, h3, h5, h6, e8, h10, h11, hln, e1, e2, c26, mm_min]
    subst hil
    try simp -implicitDefEqProofs (disch := first | omega | with_unfolding_all exact eqR (Eq.refl _)) [nums, -getElem!_pos, -Int.natCast_add, -Int.natCast_mul, -Int.natCast_ediv]
    refine ih (j + 1) _ _ (by omega) (by omega) ?_ ?_ ?_ ?_ ?_ ?_ hQ
    all_goals simp [h3, h5, h6, e8]
theorem law4 {v : AV} {l : List Mo} {n : Nat} (hv : ML tQ v l) (hn : n < 256) (hby : ∀ m ∈ l, Bytes m) (hll : l.length < 2 ^ 63) : Res (callI tab 4 [inp v n] Heap.empty) fun e _ => e = .bool true := by
  have hf := inp_flat (n := n) hv
  have hz : frz 0 6 Heap.empty (inp v n) = some (inp v n, Heap.empty) := inp_frz (n := n) hv 0 4 Heap.empty
  refine .hide fun Q hQ => .enter tab_4 (by simp [AF4]) (.inr (by simp [hz])) ?_
  have hs : callI tab 18 [] (Heap.empty.begin.new (.cells [v, .int .u8 n] none)) = some (.bool true, Heap.empty.begin.new (.cells [v, .int .u8 n] none)) := callI_of (san21_1 _)
  have hin : AV.agg [v, .int .u8 n] = inp v n := rfl
  have c24 := fun H => call_24 hv hn (H := H)
  have hc5 : n % 5 ≤ 4 := by omega
  generalize hc : n % 5 = c at *
  simp -implicitDefEqProofs (disch := first | omega | with_unfolding_all exact eqR (Eq.refl _)) [nums, -getElem!_pos, -Int.natCast_add, -Int.natCast_mul, -Int.natCast_ediv, AF4, hf, hs, S4_4, ld20, hin]
  refine .call (call_23 hv hn hby hll) fun e H1 ⟨hH, L, hL, l1, bL⟩ => ?_
  subst hH
  rw [hc] at bL
  have hB := good_len hc5 bL
  have h19 : ∀ H, Res (callI tab 19 [e, .int .i64 (c : Nat)] H) fun e H' => H' = H ∧ ∃ w P, e = .tup [w, .int .i64 0] ∧ ML tM w P ∧ Irr L P := fun H => call_19 (n := c) hL (by omega) (fun m hm => ⟨(bL m hm).valid, fun q _ h => by rw [(bL m hm q).2.2 h]; omega⟩) (by omega) hB
  have hX : ∀ P, Irr L P → P.length ≤ 1000 := fun P h => hB P h.good
  simp -implicitDefEqProofs (disch := first | omega | with_unfolding_all exact eqR (Eq.refl _)) [nums, -getElem!_pos, -Int.natCast_add, -Int.natCast_mul, -Int.natCast_ediv, ld20, hin, c24]
  refine .call (call_20 hL h19 hX) fun e2 H2 ⟨hH, P, S, w, hirr, he, hmw, hsets⟩ => ?_
  subst hH he
  simp -implicitDefEqProofs (disch := first | omega | with_unfolding_all exact eqR (Eq.refl _)) [nums, -getElem!_pos, -Int.natCast_add, -Int.natCast_mul, -Int.natCast_ediv]
  refine .call (call_25 (n := c) hL hc5 bL (by omega)) fun e3 H3 ⟨hH, he⟩ => ?_
  subst hH he
  obtain ⟨S', hS'⟩ : ∃ S' : List Nat, S = S'.map fun s : Nat => ((s : Nat) : Int) := ⟨S.map Int.toNat, by
    rw [List.map_map]
    conv => lhs; rw [← List.map_id S]
    refine List.map_congr_left fun x hx => ?_
    obtain ⟨k, _, rfl⟩ := hsets.nat hx
    rfl⟩
  subst hS'
  have hmem : ∀ s, s ∈ S' ↔ ∃ a ∈ P, supN a = s := fun s => by
    have h1 := hsets.mem ((s : Nat) : Int)
    rw [List.mem_map] at h1
    constructor
    · intro h
      obtain ⟨a, ha, e⟩ := h1.1 ⟨s, h, rfl⟩
      exact ⟨a, ha, by omega⟩
    · rintro ⟨a, ha, e⟩
      obtain ⟨x, hx, e2⟩ := h1.2 ⟨a, ha, by omega⟩
      have : x = s := by omega
      subst this; exact hx
  have hlaw := dim_law hc5 bL hirr hmem
  have h8 : ∀ s ∈ S', s < 256 := fun s h => by
    obtain ⟨a, _, e⟩ := (hmem s).1 h
    rw [← e]; exact supN_lt a
  have hlP := hX _ hirr
  have hlS : S'.length ≤ 1000 := by
    have h1 := List.nodup_iff_pairwise_ne.2 (hsets.asc.imp fun h => by omega)
    have : (S'.map fun s : Nat => ((s : Nat) : Int)).length ≤ (P.map fun a => ((supN a : Nat) : Int)).length := nodup_lenI h1 fun s h => by
      obtain ⟨a, ha, e⟩ := (hsets.mem s).1 h
      exact List.mem_map.2 ⟨a, ha, e⟩
    rw [List.length_map, List.length_map] at this
    omega
  obtain ⟨m1, m2, m3⟩ := min_fold S' ((c + 1 : Nat) : Int)
  have hle : -1 ≤ leastF c S' ∧ leastF c S' ≤ 100 := by
    unfold leastF
    rcases m3 with e | ⟨s, hs, e⟩ <;> omega
  have hwr : IntKind.i64.wrap ((c : Int) - leastF c S') = (c : Int) - leastF c S' := wrap_int (by omega) (by omega)
  have hdl : ∀ d : Int, d = (c : Int) - leastF c S' → (d == (c : Int) - leastF c S') = true := fun d h => by rw [h]; simp
  have hdd := hdl _ hlaw
  generalize dimF ((List.range (2 ^ c)).filter (maxB L c)) = D at *
  simp -implicitDefEqProofs (disch := first | omega | with_unfolding_all exact eqR (Eq.refl _)) [nums, -getElem!_pos, -Int.natCast_add, -Int.natCast_mul, -Int.natCast_ediv, S4_3]
  refine l4_1 hmw h8 (by omega) (x3 := .bool true) (x5 := .int .i64 (c : Nat)) (x8 := .int .i64 D) _ 0 _ ((c + 1 : Nat) : Int) rfl (by omega) ?_ ?_ ?_ ?_ ?_ ?_ fun σ' q3 q5 q8 q10 => ?_
  any_goals (first | (simp; done) | skip)
  rw [List.drop_zero, show S'.foldl (fun d s => imin d (onesN s : Nat)) ((c + 1 : Nat) : Int) = leastF c S' from rfl] at q10
  generalize leastF c S' = E at *
  simp -implicitDefEqProofs (disch := first | omega | with_unfolding_all exact eqR (Eq.refl _)) [nums, -getElem!_pos, -Int.natCast_add, -Int.natCast_mul, -Int.natCast_ediv, S4_2, q3, q5, q8, q10, hwr, hdd]
  exact .mk (hQ _ _ rfl)
end
end Go.Mach.Ytl
