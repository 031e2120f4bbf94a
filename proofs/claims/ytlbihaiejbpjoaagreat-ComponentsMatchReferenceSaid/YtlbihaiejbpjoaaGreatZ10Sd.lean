/-
  Pruned copy of the text Sc Sd. By an AI agent.
-/
import Derived.Test.YtlbihaiejbpjoaaGreatZ10Sb
import Derived.Test.YtlbihaiejbpjoaaGreatZ10Rg
set_option linter.unusedSimpArgs false
set_option linter.unusedVariables false
set_option maxRecDepth 100000
namespace Go.Mach.Ytl
open Go.Mach
section
variable {s : List Jtm} {k : KF} {Q : AV → Heap → Prop}
attribute [local simp] guardI_u
attribute [local simp ↓ high] pureA_lkp heapA_mpu heapA_mkm
def embB (S : List Int) (s : Int) : Bool := S.any fun t => !(t == s) && (andNotK .u8 t s == 0)
theorem call_74 {b : Nat} {x : Int} : PredB 43 b (.cells [.int .u8 x] none) (fun t => !(t == x) && (andNotK .u8 t x == 0)) := by
  intro a H hb ho
  refine callI_enter tab_74 (by simp [AF74]) (.inr (by simp [hb])) ?_
  by_cases h : a = x
  · have h2 : (a == x) = true := by simpa using h
    simp -implicitDefEqProofs (disch := first | omega | with_unfolding_all exact eqR (Eq.refl _)) [nums, -getElem!_pos, -Int.natCast_add, -Int.natCast_mul, -Int.natCast_ediv, AF74, ho, load1, h2]
  · have h2 : (a == x) = false := by simpa using h
    simp -implicitDefEqProofs (disch := first | omega | with_unfolding_all exact eqR (Eq.refl _)) [nums, -getElem!_pos, -Int.natCast_add, -Int.natCast_mul, -Int.natCast_ediv, AF74, ho, load1, h2]
theorem l21_2 {vS x8 : AV} {S : List Int} (hv : ML tB vS S) {H0 : Heap} (hb : H0.base ≤ H0.next) (hl : S.length < 2 ^ 20) : ∀ (m j : Nat) (σ : Sig) (H : Heap) (w : AV) (cur : List Int), S.length - j = m → j ≤ S.length → σ 7 = vS → σ 8 = x8 → σ 9 = w → σ 19 = vS → σ 20 = .int .i64 (S.length : Nat) → σ 21 = .int .i64 (j : Nat) → AccP tB (fun i => H0.next ≤ i) H w cur → Ow H0 H → cur.length ≤ j →
    (∀ σ' H' w', σ' 8 = x8 → σ' 9 = w' → AccP tB (fun i => H0.next ≤ i) H' w' (cur ++ (S.drop j).filter (embB S)) → Ow H0 H' → Res (ai (callI tab) s k .nrm σ' H') Q) →
    Res (li (callI tab) L21_2 (.inBlock 0 :: s) k σ H) Q := by
  intro m
  induction m with
  | zero =>
    intro j σ H w cur hm hj h7 h8 h9 h19 h20 h21 ha ho hlen hQ
    rw [List.drop_of_length_le (by omega)] at hQ
    obtain ⟨il, hil⟩ : ∃ x, x = Jtm.inLoop L21_2 := ⟨_, rfl⟩; rw [li_eq' il hil]
    simp -implicitDefEqProofs (disch := first | omega | with_unfolding_all exact eqR (Eq.refl _)) [nums, -getElem!_pos, -Int.natCast_add, -Int.natCast_mul, -Int.natCast_ediv, L21_2, S21_1, h7, h8, h9, h19, h20, h21]
    subst hil
    try simp -implicitDefEqProofs (disch := first | omega | with_unfolding_all exact eqR (Eq.refl _)) [nums, -getElem!_pos, -Int.natCast_add, -Int.natCast_mul, -Int.natCast_ediv]
    refine hQ _ _ w ?_ ?_ (by simpa using ha) ho <;> simp [h8, h9]
  | succ m ih =>
    intro j σ H w cur hm hj h7 h8 h9 h19 h20 h21 ha ho hlen hQ
    have hjl : j < S.length := by omega
    obtain ⟨p, e1, e2⟩ := (hv.rd H).2 j hjl
    have e1' : iaddrA none 1 vS (.int .i64 (j : Nat)) = some p := e1
    have e2' : loadA H false 1 p = some (.int .u8 S[j]) := e2
    have hnx := ho.next
    have dA : Add H ((H.new (.cells [.int .u8 0] none)).set H.next (.cells [.int .u8 S[j]] none)) := Add.refl.box _ _
    have nA : ((H.new (.cells [.int .u8 0] none)).set H.next (.cells [.int .u8 S[j]] none)).next = H.next + 1 := rfl
    have oA : ((H.new (.cells [.int .u8 0] none)).set H.next (.cells [.int .u8 S[j]] none)).obj H.next = .cells [.int .u8 S[j]] none := by simp [Heap.set, upd]
    have hwA : Ow H0 ((H.new (.cells [.int .u8 0] none)).set H.next (.cells [.int .u8 S[j]] none)) := (ho.new _).set _ hnx hb
    have aA : AccP tB (fun i => H0.next ≤ i) ((H.new (.cells [.int .u8 0] none)).set H.next (.cells [.int .u8 S[j]] none)) w cur := ha.frame dA.next (fun i _ h => dA.obj i h) fun i h _ => h
    have c73 := call_73 (b := H.next) (call_74 (x := S[j])) (hv.rd ((H.new (.cells [.int .u8 0] none)).set H.next (.cells [.int .u8 S[j]] none))) (by rw [nA]; omega) oA (by omega)
    have hst : (S.any fun t => !(t == S[j]) && (andNotK .u8 t S[j] == 0)) = embB S S[j] := rfl
    rw [hst] at c73
    rw [List.drop_eq_getElem_cons hjl] at hQ
    cases hem : embB S S[j] with
    | true =>
      rw [List.filter_cons_of_pos hem, ← List.singleton_append, ← List.append_assoc] at hQ
      rw [hem] at c73
      obtain ⟨w', H', e3, ha', df⟩ := aA.app (m := [S[j]]) (bs := 1) (ex := true) (n := 1) (by rw [nA]; omega) (by simp) rfl (by simp; omega)
      have e3' : appA ((H.new (.cells [.int .u8 0] none)).set H.next (.cells [.int .u8 S[j]] none)) 1 1 w (.vec 1 true [.int .u8 S[j]]) = some (w', H') := e3
      obtain ⟨il, hil⟩ : ∃ x, x = Jtm.inLoop L21_2 := ⟨_, rfl⟩; rw [li_eq' il hil]
      simp -implicitDefEqProofs (disch := first | omega | with_unfolding_all exact eqR (Eq.refl _)) [nums, -getElem!_pos, -Int.natCast_add, -Int.natCast_mul, -Int.natCast_ediv, L21_2, S21_1, h7, h8, h9, h19, h20, h21, e1', e2', store1, c73, load1, bslR_u8, e3']
      simp -implicitDefEqProofs (disch := first | omega | with_unfolding_all exact eqR (Eq.refl _)) [nums, -getElem!_pos, -Int.natCast_add, -Int.natCast_mul, -Int.natCast_ediv, S21_0, h7, h8, h9, h19, h20, h21]
      subst hil
      try simp -implicitDefEqProofs (disch := first | omega | with_unfolding_all exact eqR (Eq.refl _)) [nums, -getElem!_pos, -Int.natCast_add, -Int.natCast_mul, -Int.natCast_ediv]
      refine ih (j + 1) _ H' w' _ (by omega) (by omega) ?_ ?_ ?_ ?_ ?_ ?_ ha' (df.ow hwA hb fun i h => h) (by simp; omega) hQ
      all_goals simp [h7, h8, h9, h19, h20]
    | false =>
      rw [List.filter_cons_of_neg (by rw [hem]; simp)] at hQ
      rw [hem] at c73
      obtain ⟨il, hil⟩ : ∃ x, x = Jtm.inLoop L21_2 := ⟨_, rfl⟩; rw [li_eq' il hil]
      simp -implicitDefEqProofs (disch := first | omega | with_unfolding_all exact eqR (Eq.refl _)) [nums, -getElem!_pos, -Int.natCast_add, -Int.natCast_mul, -Int.natCast_ediv, L21_2, S21_1, h7, h8, h9, h19, h20, h21, e1', e2', store1, c73, load1]
      simp -implicitDefEqProofs (disch := first | omega | with_unfolding_all exact eqR (Eq.refl _)) [nums, -getElem!_pos, -Int.natCast_add, -Int.natCast_mul, -Int.natCast_ediv, S21_0, h7, h8, h9, h19, h20, h21]
      subst hil
      try simp -implicitDefEqProofs (disch := first | omega | with_unfolding_all exact eqR (Eq.refl _)) [nums, -getElem!_pos, -Int.natCast_add, -Int.natCast_mul, -Int.natCast_ediv]
      refine ih (j + 1) _ _ w cur (by omega) (by omega) ?_ ?_ ?_ ?_ ?_ ?_ aA hwA (by omega) hQ
      all_goals simp [h7, h8, h9, h19, h20]
theorem call_21 {v : AV} {L : List Mo} {n c : Int} {X : List Mo → Prop} {H : Heap} (hv : ML tM v L) (h19 : ∀ H, Res (callI tab 7 [v, .int .i64 n] H) fun e H' => H' = H ∧ ∃ w P, e = .tup [w, .int .i64 c] ∧ ML tM w P ∧ X P) (hX : ∀ P, X P → P.length ≤ 1000) :
    Res (callI tab 11 [v, .int .i64 n] H) fun e H' => H' = H ∧ ∃ P S w, X P ∧ e = .tup [w, .int .i64 c] ∧ ML tB w (S.filter (embB S)) ∧ Sets P S := by
  have hf := hv.frz
  refine .hide fun Q hQ => .enter tab_21 (by simp [AF21]) (.inr (by simp [hf])) ?_
  simp -implicitDefEqProofs (disch := first | omega | with_unfolding_all exact eqR (Eq.refl _)) [nums, -getElem!_pos, -Int.natCast_add, -Int.natCast_mul, -Int.natCast_ediv, AF21]
  refine .call (call_72 hv (h19 _) hX) fun e H1 ⟨ho, P, S, w, idm, hx, he, hml, hs, _⟩ => ?_
  subst he
  have hln := fun H => (hml.rd H).1
  have hlS : S.length < 2 ^ 20 := by
    have h1 := List.nodup_iff_pairwise_ne.2 (hs.asc.imp fun h => by omega)
    have : S.length ≤ (P.map fun a => ((supN a : Nat) : Int)).length := nodup_lenI h1 fun s h => by
      obtain ⟨a, ha, e⟩ := (hs.mem s).1 h
      exact List.mem_map.2 ⟨a, ha, e⟩
    rw [List.length_map] at this
    have := hX P hx
    omega
  simp -implicitDefEqProofs (disch := first | omega | with_unfolding_all exact eqR (Eq.refl _)) [nums, -getElem!_pos, -Int.natCast_add, -Int.natCast_mul, -Int.natCast_ediv, hln]
  refine l21_2 hml (H0 := H.begin) (Nat.le_refl _) hlS (x8 := .int .i64 c) _ 0 _ _ .nils [] rfl (by omega) ?_ ?_ ?_ ?_ ?_ ?_ .nil ho (by simp) fun σ' H' w' q8 q9 ha ho' => ?_
  any_goals (first | (simp; done) | skip)
  obtain ⟨e, H2, hz, hml2, ho2⟩ := (ha.acc (H0 := H.begin) fun i h => h).frz ho' (Nat.le_refl _) (Nat.le_refl _) 4
  have hnn := hml2.nonew H.next 2
  have hws : H2.ws = [] := ho2.ws
  have hq : (AV.tup [e, .int .i64 c]).noNew H.next 4 = true := by simp [hnn]
  have hz' : Mach.frz H.next 5 H' w' = some (e, H2) := hz
  simp -implicitDefEqProofs (disch := first | omega | with_unfolding_all exact eqR (Eq.refl _)) [nums, -getElem!_pos, -Int.natCast_add, -Int.natCast_mul, -Int.natCast_ediv, S21_3, q8, q9, hz', wrap_quiet hws hq]
  exact .mk (hQ _ _ ⟨rfl, P, S, e, hx, rfl, by simpa using hml2, hs⟩)
end
end Go.Mach.Ytl
set_option linter.unusedSimpArgs false
set_option linter.unusedVariables false
set_option maxRecDepth 100000
namespace Go.Mach.Ytl
open Go.Mach
structure Mg (S : List Mo) (r : List Mo) : Prop where
  min : IsMin r r
  exps : ∀ x ∈ r, ∀ q, x.get q = 0 ∨ ∃ a ∈ S, 0 < a.get q ∧ x.get q = a.get q
  sem : ∀ t, t.nn → ((∃ x ∈ r, Mo.le x t) ↔ ∀ b ∈ S, inQ b t)
theorem Mg.nn {S r : List Mo} (h : Mg S r) : ∀ x ∈ r, x.nn := fun x hx => nn_get.2 fun q _ => by
  rcases h.exps x hx q with e | ⟨a, _, h0, e⟩ <;> omega
theorem Mg.start : Mg [] [Mo.zero] where
  min := (Mt.start (n := 0)).min
  exps x hx q := by rw [List.mem_singleton] at hx; subst hx; exact .inl (zero_get q)
  sem := (Mt.start (n := 0)).sem
theorem get_big {m : Mo} {q : Nat} (h : 8 ≤ q) : m.get q = 0 := by
  match q, h with
  | q + 8, _ => rfl
theorem powL_get {a x : Mo} (hx : x ∈ powL a) (q : Nat) : x.get q = 0 ∨ 0 < a.get q ∧ x.get q = a.get q := by
  simp only [powL, List.mem_map, List.mem_filter, List.mem_range, decide_eq_true_eq] at hx
  obtain ⟨j, ⟨hj, h0⟩, rfl⟩ := hx
  rw [get_set hj]
  split
  · rename_i e; subst e; exact .inr ⟨h0, rfl⟩
  · exact .inl (zero_get q)
theorem powL_nn {a x : Mo} (hx : x ∈ powL a) : x.nn := nn_get.2 fun q _ => by rcases powL_get hx q with e | ⟨h0, e⟩ <;> omega
theorem Mg.next {S r r' : List Mo} {a : Mo} (h : Mg S r) (hm : IsMin (lcms r (powL a)) r') : Mg (S ++ [a]) r' where
  min := hm.self
  exps x hx q := by
    obtain ⟨p, hp, y, hy, rfl⟩ := lcms_mem.1 (hm.sub hx)
    by_cases hq : q < 8
    · rw [map2_get hq]
      unfold imax
      split
      · rcases powL_get hy q with e | ⟨h0, e⟩
        · exact .inl e
        · exact .inr ⟨a, by simp, h0, e⟩
      · rcases h.exps p hp q with e | ⟨b, hb, h0, e⟩
        · exact .inl e
        · exact .inr ⟨b, by simp [hb], h0, e⟩
    · exact .inl (get_big (by omega))
  sem t ht := by
    have hnn : ∀ x ∈ lcms r (powL a), x.nn := fun x hx => by
      obtain ⟨p, hp, q, hq, rfl⟩ := lcms_mem.1 hx
      exact max_nn (h.nn p hp) (powL_nn hq)
    have e := hm.any_le hnn t
    rw [lcms_any, Bool.eq_iff_iff, Bool.and_eq_true, List.any_eq_true, List.any_eq_true, List.any_eq_true] at e
    simp only [decide_eq_true_eq] at e
    rw [e, h.sem t ht, powL_le ht]
    constructor
    · rintro ⟨h1, h2⟩ b hb
      rcases List.mem_append.1 hb with hb | hb
      · exact h1 b hb
      · rw [List.mem_singleton] at hb; subst hb; exact h2
    · intro h1
      exact ⟨fun b hb => h1 b (List.mem_append_left _ hb), h1 a (by simp)⟩
theorem Mg.mt {n : Nat} {S r : List Mo} (h : Mg S r) (hS : ∀ a ∈ S, Box n a) : Mt n S r := ⟨h.min, fun x hx => exps_box hS (h.exps x hx), h.sem⟩
theorem Mach_frzD {α : Type} {t : Ty α} {own : Nat → Prop} {H : Heap} {v : AV} {l : List α} (h : AccP t own H v l) {b : Nat} (hb : ∀ i, own i → b ≤ i) (m : Nat) : ∃ v' H', frz b (m + 1) H v = some (v', H') ∧ ML t v' l ∧ Df own H H' := by
  cases h with
  | nil => exact ⟨.nils, H, rfl, .inl ⟨rfl, rfl⟩, .refl⟩
  | vec => exact ⟨.vec 0 true [], H, rfl, .inr ⟨true, rfl⟩, .refl⟩
  | live id rel l n hn hobj hid hidn hrel hne =>
    subst hn
    have hl : (t.row l).length = l.length * t.e := t.row_length l
    refine ⟨.vec l.length false (t.row l), (H.kill rel).set id (.frz (t.row l)), ?_, .inr ⟨false, rfl⟩, (Df.refl.kill fun r h => (hrel r h).1).set _ (.inl hid)⟩
    rw [Mach.frz, if_neg (by have := hb id hid; omega), hobj]
    simp only [t.row_pure, if_true]
    rw [if_pos ⟨by omega, Nat.le_refl _⟩, List.drop_zero, List.take_of_length_le (by omega)]
    rfl
structure PV where
  s : Int
  v : AV
  l : List Mo
  h : ML tM v l
def tP : Ty PV where
  e := 2
  agg := true
  val x := .agg [.int .u8 x.s, x.v]
  cells x := [.int .u8 x.s, x.v]
  len _ := rfl
  pos := by decide
  flat x := rfl
  one a p q := part_mid 2 p _ q rfl
  nn a b n := by
    have h := a.h.nonew b n
    rw [List.all_cons, List.all_cons, h]; rfl
  pure a := by
    have h := ml_pure a.h
    rw [List.all_cons, List.all_cons, h]; rfl
  cell a := by
    have h := ml_cell a.h
    rw [List.all_cons, List.all_cons, h]; rfl
section
variable {s : List Jtm} {k : KF} {Q : AV → Heap → Prop}
attribute [local simp] guardI_u
attribute [local simp ↓ high] pureA_lkp heapA_mpu heapA_mkm
theorem l75_1 {v : AV} {gs : List LV} {A : List Mo} (hv : ML tL v gs) (hg : gs.map LV.l = A.map powL) (hB : ∀ S' r, (∀ a ∈ S', a ∈ A) → Mg S' r → r.length ≤ 1000) (hl : gs.length < 2 ^ 30) {H : Heap} : ∀ (m j : Nat) (σ : Sig) (w : AV) (r : List Mo), gs.length - j = m → j ≤ gs.length → σ 3 = w → σ 8 = v → σ 9 = .int .i64 (gs.length : Nat) → σ 10 = .int .i64 (j : Nat) → ML tM w r → Mg (A.take j) r →
    (∀ σ' w' r', σ' 3 = w' → ML tM w' r' → Mg A r' → Res (ai (callI tab) s k .nrm σ' H) Q) →
    Res (li (callI tab) L75_1 (.inBlock 0 :: s) k σ H) Q := by
  intro m
  have hlA : gs.length = A.length := by have := congrArg List.length hg; simpa using this
  induction m with
  | zero =>
    intro j σ w r hm hj h3 h8 h9 h10 hw hmg hQ
    rw [List.take_of_length_le (by omega)] at hmg
    obtain ⟨il, hil⟩ : ∃ x, x = Jtm.inLoop L75_1 := ⟨_, rfl⟩; rw [li_eq' il hil]
    simp -implicitDefEqProofs (disch := first | omega | with_unfolding_all exact eqR (Eq.refl _)) [nums, -getElem!_pos, -Int.natCast_add, -Int.natCast_mul, -Int.natCast_ediv, L75_1, h3, h8, h9, h10]
    subst hil
    try simp -implicitDefEqProofs (disch := first | omega | with_unfolding_all exact eqR (Eq.refl _)) [nums, -getElem!_pos, -Int.natCast_add, -Int.natCast_mul, -Int.natCast_ediv]
    refine hQ _ w r ?_ hw hmg
    simp [h3]
  | succ m ih =>
    intro j σ w r hm hj h3 h8 h9 h10 hw hmg hQ
    have hjl : j < gs.length := by omega
    obtain ⟨p, e1, e2⟩ := (hv.rd H).2 j hjl
    have e1' : iaddrA none 1 v (.int .i64 (j : Nat)) = some p := e1
    have e2' : loadA H false 1 p = some (gs[j]).v := e2
    have hel : (gs[j]).l = powL (A[j]'(by omega)) := by
      have : (gs.map LV.l)[j]? = (A.map powL)[j]? := by rw [hg]
      rw [List.getElem?_map, List.getElem?_map, List.getElem?_eq_getElem hjl, List.getElem?_eq_getElem (by omega)] at this
      simpa using this
    have hlr := hB _ _ (fun a h => List.mem_of_mem_take h) hmg
    have hlp := powL_len (a := A[j]'(by omega))
    have hml := (gs[j]).h
    rw [hel] at hml
    have htk : A.take (j + 1) = A.take j ++ [A[j]'(by omega)] := by rw [List.take_succ_eq_append_getElem (by omega)]
    obtain ⟨il, hil⟩ : ∃ x, x = Jtm.inLoop L75_1 := ⟨_, rfl⟩; rw [li_eq' il hil]
    simp -implicitDefEqProofs (disch := first | omega | with_unfolding_all exact eqR (Eq.refl _)) [nums, -getElem!_pos, -Int.natCast_add, -Int.natCast_mul, -Int.natCast_ediv, L75_1, S75_0, h3, h8, h9, h10, e1', e2']
    refine .call (call_53 hw hml (by omega) (by omega) (by have := Nat.mul_le_mul hlr hlp; omega)) fun e4 H3 ⟨hH, r', hr', hmin⟩ => ?_
    subst hH
    simp -implicitDefEqProofs (disch := first | omega | with_unfolding_all exact eqR (Eq.refl _)) [nums, -getElem!_pos, -Int.natCast_add, -Int.natCast_mul, -Int.natCast_ediv, S75_0, h3, h8, h9, h10]
    subst hil
    try simp -implicitDefEqProofs (disch := first | omega | with_unfolding_all exact eqR (Eq.refl _)) [nums, -getElem!_pos, -Int.natCast_add, -Int.natCast_mul, -Int.natCast_ediv]
    refine ih (j + 1) _ e4 r' (by omega) (by omega) ?_ ?_ ?_ ?_ hr' (by rw [htk]; exact hmg.next hmin) hQ
    all_goals simp [h8, h9]
theorem call_75 {v : AV} {gs : List LV} {A : List Mo} {H : Heap} (hv : ML tL v gs) (hg : gs.map LV.l = A.map powL) (hB : ∀ S' r, (∀ a ∈ S', a ∈ A) → Mg S' r → r.length ≤ 1000) (hl : gs.length < 2 ^ 30) : Res (callI tab 44 [v] H) fun e H' => H' = H ∧ ∃ r, ML tM e r ∧ Mg A r := by
  have hf := hv.frz
  have hln := fun H => (hv.rd H).1
  have hf0 : fillA Mo.zero.cells [] = some Mo.zero.cells := rfl
  have hag : AV.agg Mo.zero.cells = mono Mo.zero := rfl
  refine .hide fun Q hQ => .enter tab_75 (by simp [AF75]) (.inr (by simp [hf])) ?_
  simp -implicitDefEqProofs (disch := first | omega | with_unfolding_all exact eqR (Eq.refl _)) [nums, -getElem!_pos, -Int.natCast_add, -Int.natCast_mul, -Int.natCast_ediv, AF75, hf0, hag, bslR_mono, hln]
  refine l75_1 hv hg hB hl _ 0 _ (.vec 1 true Mo.zero.cells) [Mo.zero] rfl (by omega) ?_ ?_ ?_ ?_ (.inr ⟨true, rfl⟩) (by simpa using Mg.start) fun σ' w' r' q3 hml hmg => ?_
  any_goals (first | (simp; done) | skip)
  have hf := hml.frz
  have hnn := hml.nonew H.next 3
  simp -implicitDefEqProofs (disch := first | omega | with_unfolding_all exact eqR (Eq.refl _)) [nums, -getElem!_pos, -Int.natCast_add, -Int.natCast_mul, -Int.natCast_ediv, S75_2, q3, hf, hnn]
  try rw [wrap_begin hnn]
  exact .mk (hQ _ _ ⟨rfl, r', hml, hmg⟩)
structure Gr2 (H0 H : Heap) (idm : Nat) (ks : List Int) (val : Int → AV) (ow : Nat → Option Int) (P : List Mo) (R : List Int) : Prop where
  idlt : idm < H.next
  idow : ow idm = none
  obj : H.obj idm = .map (entr ks val)
  low : ∀ i, ow i ≠ none → H0.next ≤ i
  off : ∀ s, s ∉ ks → val s = .nils
  acc : ∀ s ∈ R, 0 ≤ s ∧ ∃ gs : List LV, AccP tL (fun i => ow i = some s) H (val s) gs ∧ gs.map LV.l = (P.filter fun a => decide (((supN a : Nat) : Int) = s)).map powL
theorem Gr2.frame {H0 H H' : Heap} {idm : Nat} {ks : List Int} {val : Int → AV} {ow ow' : Nat → Option Int} {P : List Mo} {R R' : List Int} (g : Gr2 H0 H idm ks val ow P R) (hR : ∀ s ∈ R', s ∈ R) (hn : H.next ≤ H'.next) (hi : H'.obj idm = H.obj idm) (ho : ∀ i s, i < H.next → s ∈ R' → ow i = some s → H'.obj i = H.obj i) (hw : ∀ i, i < H.next → ow' i = ow i) (hl : ∀ i, ow' i ≠ none → H0.next ≤ i) : Gr2 H0 H' idm ks val ow' P R' where
  idlt := Nat.lt_of_lt_of_le g.idlt hn
  idow := by rw [hw _ g.idlt]; exact g.idow
  obj := hi.trans g.obj
  low := hl
  off := g.off
  acc s hs := by
    obtain ⟨h0, gs, h1, h2⟩ := g.acc s (hR s hs)
    exact ⟨h0, gs, h1.frame hn (fun i k1 k2 => ho i s k2 hs k1) fun i k1 k2 => by rw [hw i k2]; exact k1, h2⟩
theorem Gr2.look {H0 H : Heap} {idm : Nat} {ks : List Int} {val : Int → AV} {ow : Nat → Option Int} {P : List Mo} {R : List Int} (g : Gr2 H0 H idm ks val ow P R) {s : Int} : lkA false H .nils false (.mp idm) (.int .u8 s) = some (val s) := by
  rw [lkA_some g.obj (find_entr ks)]
  by_cases h : s ∈ ks
  · rw [if_pos h]; rfl
  · rw [if_neg h, g.off s h]; rfl
theorem fill_pv {s : Int} {v : AV} {l : List Mo} (h : ML tM v l) : fillA [.int .u8 0, .nils] [(0, 1, .int .u8 s), (1, 1, v)] = some [.int .u8 s, v] := by
  have h1 := h.flat
  simp [fillA, h1, put]
theorem fill_pv2 {s : Int} {v : AV} : fillA [.int .u8 0, .nils] [(0, 2, .agg [.int .u8 s, v])] = some [.int .u8 s, v] := by
  simp [fillA, put]
theorem bslR_pv {H : Heap} {s : Int} {v : AV} {l : List Mo} (h : ML tM v l) : bslR H 1 2 (some [.int .u8 s, v]) = some (.vec 1 true [.int .u8 s, v], H) := by
  have h2 := ml_pure h
  have h3 : ([AV.int .u8 s, v] : List AV).all AV.pure = true := by rw [List.all_cons, List.all_cons, h2]; rfl
  simp only [bslR, h3, if_true]
theorem l22_1 {vS x8 : AV} {P : List Mo} {S : List Int} (hv : ML tB vS S) {H0 : Heap} (hb : H0.base = H0.next) {idm : Nat} {ks : List Int} {val : Int → AV} (hl : S.length < 2 ^ 20) (hP : P.length ≤ 1000) (hasc : S.Pairwise (· < ·)) (hB : ∀ S' r, (∀ a ∈ S', a ∈ P) → Mg S' r → r.length ≤ 1000) : ∀ (m j : Nat) (σ : Sig) (H : Heap) (w : AV) (cur : List PV) (ow : Nat → Option Int), S.length - j = m → j ≤ S.length → σ 6 = .mp idm → σ 8 = x8 → σ 9 = w → σ 19 = vS → σ 20 = .int .i64 (S.length : Nat) → σ 21 = .int .i64 (j : Nat) →
    AccP tP (fun i => ow i = some (-2)) H w cur → Gr2 H0 H idm ks val ow P (S.drop j) → Ow H0 H → cur.length = j → cur.map PV.s = S.take j → (∀ x ∈ cur, Mg (P.filter fun a => decide (((supN a : Nat) : Int) = x.s)) x.l) →
    (∀ σ' H' w' parts (ow' : Nat → Option Int), σ' 8 = x8 → σ' 9 = w' → AccP tP (fun i => ow' i = some (-2)) H' w' parts → (∀ i, ow' i ≠ none → H0.next ≤ i) → Ow H0 H' → parts.map PV.s = S → (∀ x ∈ parts, Mg (P.filter fun a => decide (((supN a : Nat) : Int) = x.s)) x.l) → Res (ai (callI tab) s k .nrm σ' H') Q) →
    Res (li (callI tab) L22_1 (.inBlock 0 :: s) k σ H) Q := by
  intro m
  induction m with
  | zero =>
    intro j σ H w cur ow hm hj h6 h8 h9 h19 h20 h21 ha g ho hlen hmap hall hQ
    rw [List.take_of_length_le (by omega)] at hmap
    obtain ⟨il, hil⟩ : ∃ x, x = Jtm.inLoop L22_1 := ⟨_, rfl⟩; rw [li_eq' il hil]
    simp -implicitDefEqProofs (disch := first | omega | with_unfolding_all exact eqR (Eq.refl _)) [nums, -getElem!_pos, -Int.natCast_add, -Int.natCast_mul, -Int.natCast_ediv, L22_1, h6, h8, h9, h19, h20, h21]
    subst hil
    try simp -implicitDefEqProofs (disch := first | omega | with_unfolding_all exact eqR (Eq.refl _)) [nums, -getElem!_pos, -Int.natCast_add, -Int.natCast_mul, -Int.natCast_ediv]
    refine hQ _ _ w cur ow ?_ ?_ ha g.low ho hmap hall <;> simp [h8, h9]
  | succ m ih =>
    intro j σ H w cur ow hm hj h6 h8 h9 h19 h20 h21 ha g ho hlen hmap hall hQ
    have hjl : j < S.length := by omega
    obtain ⟨p, e1, e2⟩ := (hv.rd H).2 j hjl
    have e1' : iaddrA none 1 vS (.int .i64 (j : Nat)) = some p := e1
    have e2' : loadA H false 1 p = some (.int .u8 S[j]) := e2
    have hlk := g.look (s := S[j])
    have hdr : S.drop j = S[j] :: S.drop (j + 1) := List.drop_eq_getElem_cons hjl
    obtain ⟨s0, gs, hgs, hgm⟩ := g.acc S[j] (by rw [hdr]; exact List.mem_cons_self)
    have hnx := ho.next
    have hbs : H.base = H0.next := ho.base.trans hb
    obtain ⟨v', H1, hz, hml, d1⟩ := Mach_frzD hgs (b := H.base) (fun i h => by rw [hbs]; exact g.low i (by rw [h]; simp)) 5
    have hgl : gs.length ≤ P.length := by
      have := congrArg List.length hgm
      rw [List.length_map, List.length_map] at this
      rw [this]; exact List.length_filter_le _ _
    obtain ⟨e, H2, hc, hH2, r, hmr, hmg⟩ := call_75 (H := H1) hml hgm (fun S' r h => hB S' r fun a ha => (List.mem_filter.1 (h a ha)).1) (by omega)
    subst hH2
    have hb1 : H2.base = H.base := d1.base
    have hz2 := hml.frz H2.base 5 H2
    have hc75 := callI_frz (H := H) (H1 := H2) (args := [val S[j]]) (args' := [v']) tab_75 rfl rfl (by simp [hz]) (by simp [hz2]) hc
    have n1 := d1.next
    have hd1 : ∀ i, i < H.next → ow i ≠ some S[j] → H2.obj i = H.obj i := d1.obj
    have hw1 : Ow H0 H2 := Df.ow (own := fun i => H0.next ≤ i) (Df.into d1 fun i h => g.low i (by rw [h]; simp)) ho (by omega) fun i h => h
    have hlt : ∀ t ∈ S.drop (j + 1), S[j] < t := by
      have : (S.drop j).Pairwise (· < ·) := hasc.sublist (List.drop_sublist _ _)
      rw [hdr] at this
      exact (List.pairwise_cons.1 this).1
    have hl1 : ∀ i, upd ow H2.next (some (-2)) i ≠ none → H0.next ≤ i := fun i h => by
      simp only [upd] at h
      split at h
      · rename_i e; subst e; exact hw1.next
      · exact g.low i h
    have a1 : AccP tP (fun i => upd ow H2.next (some (-2)) i = some (-2)) H2 w cur := ha.frame n1 (fun i h1 h2 => hd1 i h2 (by rw [h1]; simp; omega)) fun i h1 h2 => by simp only [upd]; rw [if_neg (by omega)]; exact h1
    obtain ⟨w', H3, e3, a3, d3⟩ := a1.app (m := [⟨S[j], e, r, hmr⟩]) (bs := 32) (ex := true) (n := 1) (by simp [upd]) (by simp) rfl (by simp; omega)
    have e3' : appA H2 2 32 w (.vec 1 true [.int .u8 S[j], e]) = some (w', H3) := e3
    have hd3 : ∀ i, i < H2.next → ow i ≠ some (-2) → H3.obj i = H2.obj i := fun i h1 h2 => d3.obj i h1 fun h => h2 (by simp only [upd] at h; rwa [if_neg (by omega)] at h)
    have g3 : Gr2 H0 H3 idm ks val (upd ow H2.next (some (-2))) P (S.drop (j + 1)) := by
      refine g.frame (fun s h => by rw [hdr]; exact List.mem_cons_of_mem _ h) (Nat.le_trans n1 d3.next) ?_ (fun i s h1 h2 h3 => ?_) (fun i h => by simp only [upd]; rw [if_neg (by omega)]) hl1
      · rw [hd3 _ (Nat.lt_of_lt_of_le g.idlt n1) (by rw [g.idow]; simp)]
        exact hd1 _ g.idlt (by rw [g.idow]; simp)
      · have hsp := (g.acc s (by rw [hdr]; exact List.mem_cons_of_mem _ h2)).1
        have := hlt s h2
        rw [hd3 i (by omega) (by rw [h3]; simp; omega)]
        exact hd1 i h1 (by rw [h3]; simp; omega)
    have hw3 : Ow H0 H3 := Df.ow (own := fun i => H0.next ≤ i) (Df.into d3 fun i h => hl1 i (by rw [h]; simp)) hw1 (by omega) fun i h => h
    have htk : S.take (j + 1) = S.take j ++ [S[j]] := by rw [List.take_succ_eq_append_getElem hjl]
    obtain ⟨il, hil⟩ : ∃ x, x = Jtm.inLoop L22_1 := ⟨_, rfl⟩; rw [li_eq' il hil]
    simp -implicitDefEqProofs (disch := first | omega | with_unfolding_all exact eqR (Eq.refl _)) [nums, -getElem!_pos, -Int.natCast_add, -Int.natCast_mul, -Int.natCast_ediv, L22_1, S22_0, h6, h8, h9, h19, h20, h21, e1', e2', hlk, hc75, fill_pv hmr, fill_pv2, bslR_pv hmr, e3']
    subst hil
    try simp -implicitDefEqProofs (disch := first | omega | with_unfolding_all exact eqR (Eq.refl _)) [nums, -getElem!_pos, -Int.natCast_add, -Int.natCast_mul, -Int.natCast_ediv]
    refine ih (j + 1) _ H3 w' _ _ (by omega) (by omega) ?_ ?_ ?_ ?_ ?_ ?_ a3 g3 hw3 (by simp; omega) (by rw [htk, List.map_append, hmap]; rfl) (fun x hx => ?_) hQ
    any_goals (first | (simp [h6, h8, h9, h19, h20]; done) | skip)
    rcases List.mem_append.1 hx with h | h
    · exact hall x h
    · rw [List.mem_singleton] at h; subst h; exact hmg
theorem call_22 {v : AV} {L : List Mo} {n c : Int} {X : List Mo → Prop} {H : Heap} (hv : ML tM v L) (h19 : ∀ H, Res (callI tab 7 [v, .int .i64 n] H) fun e H' => H' = H ∧ ∃ w P, e = .tup [w, .int .i64 c] ∧ ML tM w P ∧ X P) (hX : ∀ P, X P → P.length ≤ 1000) (hB : ∀ P, X P → ∀ S' r, (∀ a ∈ S', a ∈ P) → Mg S' r → r.length ≤ 1000) :
    Res (callI tab 13 [v, .int .i64 n] H) fun e H' => H' = H ∧ ∃ P S w parts, X P ∧ e = .tup [w, .int .i64 c] ∧ ML tP w parts ∧ Sets P S ∧ parts.map PV.s = S ∧ ∀ x ∈ parts, Mg (P.filter fun a => decide (((supN a : Nat) : Int) = x.s)) x.l := by
  have hf := hv.frz
  refine .hide fun Q hQ => .enter tab_22 (by simp [AF22]) (.inr (by simp [hf])) ?_
  simp -implicitDefEqProofs (disch := first | omega | with_unfolding_all exact eqR (Eq.refl _)) [nums, -getElem!_pos, -Int.natCast_add, -Int.natCast_mul, -Int.natCast_ediv, AF22]
  refine .call (call_72 hv (h19 _) hX) fun e H1 ⟨ho, P, S, w, idm, hx, he, hml, hs, ks, val, ow, g⟩ => ?_
  subst he
  have hln := fun H => (hml.rd H).1
  have hlS : S.length < 2 ^ 20 := by
    have h1 := List.nodup_iff_pairwise_ne.2 (hs.asc.imp fun h => by omega)
    have : S.length ≤ (P.map fun a => ((supN a : Nat) : Int)).length := nodup_lenI h1 fun s h => by
      obtain ⟨a, ha, e⟩ := (hs.mem s).1 h
      exact List.mem_map.2 ⟨a, ha, e⟩
    rw [List.length_map] at this
    have := hX P hx
    omega
  have hpos : ∀ s ∈ S, 0 ≤ s := fun s h => by
    obtain ⟨a, _, e⟩ := (hs.mem s).1 h
    omega
  have g2 : Gr2 H.begin H1 idm ks val (fun i => if ow i = some (-2) then none else ow i) P (S.drop 0) := by
    refine ⟨g.idlt, by simp [g.idow], g.obj, fun i h => ?_, g.off, fun s h => ⟨hpos s (by simpa using h), ?_⟩⟩
    · split at h
      · exact (h rfl).elim
      · exact g.low i h
    · obtain ⟨gs, h1, h2⟩ := g.acc s (hpos s (by simpa using h))
      refine ⟨gs, h1.frame (Nat.le_refl _) (fun _ _ _ => rfl) fun i k1 _ => ?_, h2⟩
      have := hpos s (by simpa using h)
      show (if ow i = some (-2) then none else ow i) = some s
      rw [if_neg (by rw [k1]; simp; omega)]
      exact k1
  simp -implicitDefEqProofs (disch := first | omega | with_unfolding_all exact eqR (Eq.refl _)) [nums, -getElem!_pos, -Int.natCast_add, -Int.natCast_mul, -Int.natCast_ediv, hln]
  refine l22_1 (P := P) hml (H0 := H.begin) rfl hlS (hX P hx) hs.asc (hB P hx) (x8 := .int .i64 c) _ 0 _ _ .nils [] _ rfl (by omega) ?_ ?_ ?_ ?_ ?_ ?_ .nil g2 ho rfl rfl (fun x h => (nomatch h)) fun σ' H' w' parts ow' q8 q9 ha hlow ho' hmap hall => ?_
  any_goals (first | (simp; done) | skip)
  obtain ⟨e, H2, hz, hml2, ho2⟩ := (ha.acc (H0 := H.begin) fun i h => hlow i (by rw [h]; simp)).frz ho' (Nat.le_refl _) (Nat.le_refl _) 4
  have hnn := hml2.nonew H.next 2
  have hws : H2.ws = [] := ho2.ws
  have hq : (AV.tup [e, .int .i64 c]).noNew H.next 4 = true := by simp [hnn]
  have hz' : Mach.frz H.next 5 H' w' = some (e, H2) := hz
  simp -implicitDefEqProofs (disch := first | omega | with_unfolding_all exact eqR (Eq.refl _)) [nums, -getElem!_pos, -Int.natCast_add, -Int.natCast_mul, -Int.natCast_ediv, S22_2, q8, q9, hz', wrap_quiet hws hq]
  exact .mk (hQ _ _ ⟨rfl, P, S, e, parts, hx, rfl, hml2, hs, hmap, hall⟩)
end
end Go.Mach.Ytl
