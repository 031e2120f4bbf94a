/-
  Pruned copy of the text Sc Sd. By an AI agent.
-/
import Derived.Test.YtlbihaiejbpjoaaZ15Sb
import Derived.Test.YtlbihaiejbpjoaaZ15Rg
set_option linter.unusedSimpArgs false
set_option linter.unusedVariables false
set_option maxRecDepth 100000
namespace Go.Mach.Ytl
open Go.Mach
section
variable {s : List Jtm} {k : KF} {Q : AV → Heap → Prop}
attribute [local simp] guardI_u
attribute [local simp ↓ high] pureA_lkp heapA_mpu heapA_mkm
theorem andNot_byte {a b : Nat} (ha : a < 256) (hb : b < 256) : andNotK .u8 (a : Int) (b : Int) = ((a &&& (255 - b) : Nat) : Int) := by
  have key : ((List.range 256).all fun a => (List.range 256).all fun b => (BitVec.ofNat 8 a &&& ~~~ BitVec.ofNat 8 b).toNat == a &&& (255 - b)) = true := by decide +kernel
  have := (List.all_eq_true.1 ((List.all_eq_true.1 key) a (by simpa using ha))) b (by simpa using hb)
  rw [beq_iff_eq] at this
  have e : (BitVec.ofInt 8 (a : Int) &&& ~~~ BitVec.ofInt 8 (b : Int)).toNat = a &&& (255 - b) := this
  have hlt : a &&& (255 - b) < 256 := Nat.lt_of_le_of_lt Nat.and_le_left ha
  show IntKind.u8.wrap (((BitVec.ofInt 8 (a : Int) &&& ~~~ BitVec.ofInt 8 (b : Int)).toNat : Nat) : Int) = _
  rw [e, wrap8 hlt]
def embB (S : List Int) (s : Int) : Bool := S.any fun t => !(t == s) && (andNotK .u8 t s == 0)
theorem call_74 {b : Nat} {x : Int} : PredB 74 b (.cells [.int .u8 x] none) (fun t => !(t == x) && (andNotK .u8 t x == 0)) := by
  intro a H hb ho
  refine callI_enter tab_74 (by simp [AF74]) (.inr (by simp [hb])) ?_
  by_cases h : a = x
  · have h2 : (a == x) = true := by simpa using h
    simp -implicitDefEqProofs (disch := first | omega | with_unfolding_all exact eqR (Eq.refl _)) [nums, -getElem!_pos, -Int.natCast_add, -Int.natCast_mul, -Int.natCast_ediv, AF74, ho, load1, h2]
  · have h2 : (a == x) = false := by simpa using h
    simp -implicitDefEqProofs (disch := first | omega | with_unfolding_all exact eqR (Eq.refl _)) [nums, -getElem!_pos, -Int.natCast_add, -Int.natCast_mul, -Int.natCast_ediv, AF74, ho, load1, h2]
theorem l21_2 {vS x8 : AV} {S : List Int} (hv : ML tB vS S) {H0 : Heap} (hb : H0.base ≤ H0.next) (hl : S.length < 2 ^ 20) : ∀ (m j : Nat) (σ : Sig) (H : Heap) (w : AV) (cur : List Int), S.length - j = m → j ≤ S.length → σ 7 = vS → σ 8 = x8 → σ 9 = w → σ 19 = vS → σ 20 = .int .i64 (S.length : Nat) → σ 21 = .int .i64 (j : Nat) → AccP tB (fun i => H0.next ≤ i) H w cur → Ow H0 H → cur.length ≤ j →
    (∀ σ' H' w', σ' 8 = x8 → σ' 9 = w' → AccP tB (fun i => H0.next ≤ i) H' w' (cur ++ (S.drop j).filter (embB S)) → Ow H0 H' → Res (ai (callI tab) s k .nrm σ' H') Q) →
    Res (li (callI tab) L21_2 (.inBlock 0 :: s) k σ H) Q := by
  intro m
  induction m with
  | zero =>
    intro j σ H w cur hm hj h7 h8 h9 h19 h20 h21 ha ho hlen hQ
    rw [List.drop_of_length_le (by omega)] at hQ
    obtain ⟨il, hil⟩ : ∃ x, x = Jtm.inLoop L21_2 := ⟨_, rfl⟩; rw [li_eq' il hil]
    simp -implicitDefEqProofs (disch := first | omega | with_unfolding_all exact eqR (Eq.refl _)) [nums, -getElem!_pos, -Int.natCast_add, -Int.natCast_mul, -Int.natCast_ediv, L21_2, S21_1, h7, h8, h9, h19, h20, h21]
    subst hil
    try simp -implicitDefEqProofs (disch := first | omega | with_unfolding_all exact eqR (Eq.refl _)) [nums, -getElem!_pos, -Int.natCast_add, -Int.natCast_mul, -Int.natCast_ediv]
    refine hQ _ _ w ?_ ?_ (by simpa using ha) ho <;> simp [h8, h9]
  | succ m ih =>
    intro j σ H w cur hm hj h7 h8 h9 h19 h20 h21 ha ho hlen hQ
    have hjl : j < S.length := by omega
    obtain ⟨p, e1, e2⟩ := (hv.rd H).2 j hjl
    have e1' : iaddrA none 1 vS (.int .i64 (j : Nat)) = some p := e1
    have e2' : loadA H false 1 p = some (.int .u8 S[j]) := e2
    have hnx := ho.next
    have dA : Add H ((H.new (.cells [.int .u8 0] none)).set H.next (.cells [.int .u8 S[j]] none)) := Add.refl.box _ _
    have nA : ((H.new (.cells [.int .u8 0] none)).set H.next (.cells [.int .u8 S[j]] none)).next = H.next + 1 := rfl
    have oA : ((H.new (.cells [.int .u8 0] none)).set H.next (.cells [.int .u8 S[j]] none)).obj H.next = .cells [.int .u8 S[j]] none := by simp [Heap.set, upd]
    have hwA : Ow H0 ((H.new (.cells [.int .u8 0] none)).set H.next (.cells [.int .u8 S[j]] none)) := (ho.new _).set _ hnx hb
    have aA : AccP tB (fun i => H0.next ≤ i) ((H.new (.cells [.int .u8 0] none)).set H.next (.cells [.int .u8 S[j]] none)) w cur := ha.frame dA.next (fun i _ h => dA.obj i h) fun i h _ => h
    have c73 := call_73 (b := H.next) (call_74 (x := S[j])) (hv.rd ((H.new (.cells [.int .u8 0] none)).set H.next (.cells [.int .u8 S[j]] none))) (by rw [nA]; omega) oA (by omega)
    have hst : (S.any fun t => !(t == S[j]) && (andNotK .u8 t S[j] == 0)) = embB S S[j] := rfl
    rw [hst] at c73
    rw [List.drop_eq_getElem_cons hjl] at hQ
    cases hem : embB S S[j] with
    | true =>
      rw [List.filter_cons_of_pos hem, ← List.singleton_append, ← List.append_assoc] at hQ
      rw [hem] at c73
      obtain ⟨w', H', e3, ha', df⟩ := aA.app (m := [S[j]]) (bs := 1) (ex := true) (n := 1) (by rw [nA]; omega) (by simp) rfl (by simp; omega)
      have e3' : appA ((H.new (.cells [.int .u8 0] none)).set H.next (.cells [.int .u8 S[j]] none)) 1 1 w (.vec 1 true [.int .u8 S[j]]) = some (w', H') := e3
      obtain ⟨il, hil⟩ : ∃ x, x = Jtm.inLoop L21_2 := ⟨_, rfl⟩; rw [li_eq' il hil]
      simp -implicitDefEqProofs (disch := first | omega | with_unfolding_all exact eqR (Eq.refl _)) [nums, -getElem!_pos, -Int.natCast_add, -Int.natCast_mul, -Int.natCast_ediv, L21_2, S21_1, h7, h8, h9, h19, h20, h21, e1', e2', store1, c73, load1, bslR_u8, e3']
      simp -implicitDefEqProofs (disch := first | omega | with_unfolding_all exact eqR (Eq.refl _)) [nums, -getElem!_pos, -Int.natCast_add, -Int.natCast_mul, -Int.natCast_ediv, S21_0, h7, h8, h9, h19, h20, h21]
      subst hil
      try simp -implicitDefEqProofs (disch := first | omega | with_unfolding_all exact eqR (Eq.refl _)) [nums, -getElem!_pos, -Int.natCast_add, -Int.natCast_mul, -Int.natCast_ediv]
      refine ih (j + 1) _ H' w' _ (by omega) (by omega) ?_ ?_ ?_ ?_ ?_ ?_ ha' (df.ow hwA hb fun i h => h) (by simp; omega) hQ
      all_goals simp [h7, h8, h9, h19, h20]
    | false =>
      rw [List.filter_cons_of_neg (by rw [hem]; simp)] at hQ
      rw [hem] at c73
      obtain ⟨il, hil⟩ : ∃ x, x = Jtm.inLoop L21_2 := ⟨_, rfl⟩; rw [li_eq' il hil]
      simp -implicitDefEqProofs (disch := first | omega | with_unfolding_all exact eqR (Eq.refl _)) [nums, -getElem!_pos, -Int.natCast_add, -Int.natCast_mul, -Int.natCast_ediv, L21_2, S21_1, h7, h8, h9, h19, h20, h21, e1', e2', store1, c73, load1]
      simp -implicitDefEqProofs (disch := first | omega | with_unfolding_all exact eqR (Eq.refl _)) [nums, -getElem!_pos, -Int.natCast_add, -Int.natCast_mul, -Int.natCast_ediv, S21_0, h7, h8, h9, h19, h20, h21]
      subst hil
      try simp -implicitDefEqProofs (disch := first | omega | with_unfolding_all exact eqR (Eq.refl _)) [nums, -getElem!_pos, -Int.natCast_add, -Int.natCast_mul, -Int.natCast_ediv]
      refine ih (j + 1) _ _ w cur (by omega) (by omega) ?_ ?_ ?_ ?_ ?_ ?_ aA hwA (by omega) hQ
      all_goals simp [h7, h8, h9, h19, h20]
theorem call_21 {v : AV} {L : List Mo} {n c : Int} {X : List Mo → Prop} {H : Heap} (hv : ML tM v L) (h19 : ∀ H, Res (callI tab 19 [v, .int .i64 n] H) fun e H' => H' = H ∧ ∃ w P, e = .tup [w, .int .i64 c] ∧ ML tM w P ∧ X P) (hX : ∀ P, X P → P.length ≤ 1000) :
    Res (callI tab 21 [v, .int .i64 n] H) fun e H' => H' = H ∧ ∃ P S w, X P ∧ e = .tup [w, .int .i64 c] ∧ ML tB w (S.filter (embB S)) ∧ Sets P S := by
  have hf := hv.frz
  refine .hide fun Q hQ => .enter tab_21 (by simp [AF21]) (.inr (by simp [hf])) ?_
  simp -implicitDefEqProofs (disch := first | omega | with_unfolding_all exact eqR (Eq.refl _)) [nums, -getElem!_pos, -Int.natCast_add, -Int.natCast_mul, -Int.natCast_ediv, AF21]
  refine .call (call_72 hv (h19 _) hX) fun e H1 ⟨ho, P, S, w, idm, hx, he, hml, hs, _⟩ => ?_
  subst he
  have hln := fun H => (hml.rd H).1
  have hlS : S.length < 2 ^ 20 := by
    have h1 := List.nodup_iff_pairwise_ne.2 (hs.asc.imp fun h => by omega)
    have : S.length ≤ (P.map fun a => ((supN a : Nat) : Int)).length := nodup_lenI h1 fun s h => by
      obtain ⟨a, ha, e⟩ := (hs.mem s).1 h
      exact List.mem_map.2 ⟨a, ha, e⟩
    rw [List.length_map] at this
    have := hX P hx
    omega
  simp -implicitDefEqProofs (disch := first | omega | with_unfolding_all exact eqR (Eq.refl _)) [nums, -getElem!_pos, -Int.natCast_add, -Int.natCast_mul, -Int.natCast_ediv, hln]
  refine l21_2 hml (H0 := H.begin) (Nat.le_refl _) hlS (x8 := .int .i64 c) _ 0 _ _ .nils [] rfl (by omega) ?_ ?_ ?_ ?_ ?_ ?_ .nil ho (by simp) fun σ' H' w' q8 q9 ha ho' => ?_
  any_goals (first | (simp; done) | skip)
  obtain ⟨e, H2, hz, hml2, ho2⟩ := (ha.acc (H0 := H.begin) fun i h => h).frz ho' (Nat.le_refl _) (Nat.le_refl _) 4
  have hnn := hml2.nonew H.next 2
  have hws : H2.ws = [] := ho2.ws
  have hq : (AV.tup [e, .int .i64 c]).noNew H.next 4 = true := by simp [hnn]
  have hz' : Mach.frz H.next 5 H' w' = some (e, H2) := hz
  simp -implicitDefEqProofs (disch := first | omega | with_unfolding_all exact eqR (Eq.refl _)) [nums, -getElem!_pos, -Int.natCast_add, -Int.natCast_mul, -Int.natCast_ediv, S21_3, q8, q9, hz', wrap_quiet hws hq]
  exact .mk (hQ _ _ ⟨rfl, P, S, e, hx, rfl, by simpa using hml2, hs⟩)
end
end Go.Mach.Ytl
set_option linter.unusedSimpArgs false
set_option linter.unusedVariables false
set_option maxRecDepth 100000
namespace Go.Mach.Ytl
open Go.Mach
structure Mg (S : List Mo) (r : List Mo) : Prop where
  min : IsMin r r
  exps : ∀ x ∈ r, ∀ q, x.get q = 0 ∨ ∃ a ∈ S, 0 < a.get q ∧ x.get q = a.get q
  sem : ∀ t, t.nn → ((∃ x ∈ r, Mo.le x t) ↔ ∀ b ∈ S, inQ b t)
theorem Mg.nn {S r : List Mo} (h : Mg S r) : ∀ x ∈ r, x.nn := fun x hx => nn_get.2 fun q _ => by
  rcases h.exps x hx q with e | ⟨a, _, h0, e⟩ <;> omega
theorem Mg.start : Mg [] [Mo.zero] where
  min := (Mt.start (n := 0)).min
  exps x hx q := by rw [List.mem_singleton] at hx; subst hx; exact .inl (zero_get q)
  sem := (Mt.start (n := 0)).sem
theorem get_big {m : Mo} {q : Nat} (h : 8 ≤ q) : m.get q = 0 := by
  match q, h with
  | q + 8, _ => rfl
theorem powL_get {a x : Mo} (hx : x ∈ powL a) (q : Nat) : x.get q = 0 ∨ 0 < a.get q ∧ x.get q = a.get q := by
  simp only [powL, List.mem_map, List.mem_filter, List.mem_range, decide_eq_true_eq] at hx
  obtain ⟨j, ⟨hj, h0⟩, rfl⟩ := hx
  rw [get_set hj]
  split
  · rename_i e; subst e; exact .inr ⟨h0, rfl⟩
  · exact .inl (zero_get q)
theorem powL_nn {a x : Mo} (hx : x ∈ powL a) : x.nn := nn_get.2 fun q _ => by rcases powL_get hx q with e | ⟨h0, e⟩ <;> omega
theorem Mg.next {S r r' : List Mo} {a : Mo} (h : Mg S r) (hm : IsMin (lcms r (powL a)) r') : Mg (S ++ [a]) r' where
  min := hm.self
  exps x hx q := by
    obtain ⟨p, hp, y, hy, rfl⟩ := lcms_mem.1 (hm.sub hx)
    by_cases hq : q < 8
    · rw [map2_get hq]
      unfold imax
      split
      · rcases powL_get hy q with e | ⟨h0, e⟩
        · exact .inl e
        · exact .inr ⟨a, by simp, h0, e⟩
      · rcases h.exps p hp q with e | ⟨b, hb, h0, e⟩
        · exact .inl e
        · exact .inr ⟨b, by simp [hb], h0, e⟩
    · exact .inl (get_big (by omega))
  sem t ht := by
    have hnn : ∀ x ∈ lcms r (powL a), x.nn := fun x hx => by
      obtain ⟨p, hp, q, hq, rfl⟩ := lcms_mem.1 hx
      exact max_nn (h.nn p hp) (powL_nn hq)
    have e := hm.any_le hnn t
    rw [lcms_any, Bool.eq_iff_iff, Bool.and_eq_true, List.any_eq_true, List.any_eq_true, List.any_eq_true] at e
    simp only [decide_eq_true_eq] at e
    rw [e, h.sem t ht, powL_le ht]
    constructor
    · rintro ⟨h1, h2⟩ b hb
      rcases List.mem_append.1 hb with hb | hb
      · exact h1 b hb
      · rw [List.mem_singleton] at hb; subst hb; exact h2
    · intro h1
      exact ⟨fun b hb => h1 b (List.mem_append_left _ hb), h1 a (by simp)⟩
theorem Mg.mt {n : Nat} {S r : List Mo} (h : Mg S r) (hS : ∀ a ∈ S, Box n a) : Mt n S r := ⟨h.min, fun x hx => exps_box hS (h.exps x hx), h.sem⟩
section
variable {s : List Jtm} {k : KF} {Q : AV → Heap → Prop}
attribute [local simp] guardI_u
attribute [local simp ↓ high] pureA_lkp heapA_mpu heapA_mkm
structure Gr2 (H0 H : Heap) (idm : Nat) (ks : List Int) (val : Int → AV) (ow : Nat → Option Int) (P : List Mo) (R : List Int) : Prop where
  idlt : idm < H.next
  idow : ow idm = none
  obj : H.obj idm = .map (entr ks val)
  low : ∀ i, ow i ≠ none → H0.next ≤ i
  off : ∀ s, s ∉ ks → val s = .nils
  acc : ∀ s ∈ R, 0 ≤ s ∧ ∃ gs : List LV, AccP tL (fun i => ow i = some s) H (val s) gs ∧ gs.map LV.l = (P.filter fun a => decide (((supN a : Nat) : Int) = s)).map powL
theorem Gr2.frame {H0 H H' : Heap} {idm : Nat} {ks : List Int} {val : Int → AV} {ow ow' : Nat → Option Int} {P : List Mo} {R R' : List Int} (g : Gr2 H0 H idm ks val ow P R) (hR : ∀ s ∈ R', s ∈ R) (hn : H.next ≤ H'.next) (hi : H'.obj idm = H.obj idm) (ho : ∀ i s, i < H.next → s ∈ R' → ow i = some s → H'.obj i = H.obj i) (hw : ∀ i, i < H.next → ow' i = ow i) (hl : ∀ i, ow' i ≠ none → H0.next ≤ i) : Gr2 H0 H' idm ks val ow' P R' where
  idlt := Nat.lt_of_lt_of_le g.idlt hn
  idow := by rw [hw _ g.idlt]; exact g.idow
  obj := hi.trans g.obj
  low := hl
  off := g.off
  acc s hs := by
    obtain ⟨h0, gs, h1, h2⟩ := g.acc s (hR s hs)
    exact ⟨h0, gs, h1.frame hn (fun i k1 k2 => ho i s k2 hs k1) fun i k1 k2 => by rw [hw i k2]; exact k1, h2⟩
theorem Gr2.look {H0 H : Heap} {idm : Nat} {ks : List Int} {val : Int → AV} {ow : Nat → Option Int} {P : List Mo} {R : List Int} (g : Gr2 H0 H idm ks val ow P R) {s : Int} : lkA false H .nils false (.mp idm) (.int .u8 s) = some (val s) := by
  rw [lkA_some g.obj (find_entr ks)]
  by_cases h : s ∈ ks
  · rw [if_pos h]; rfl
  · rw [if_neg h, g.off s h]; rfl
end
end Go.Mach.Ytl
