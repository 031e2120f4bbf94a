/-
  Pruned copy of the text Ya Yb. By an AI agent.
-/
import Derived.Test.YtlbihaiejbpjoaaGreatZ10Sh
set_option linter.unusedSimpArgs false
set_option linter.unusedVariables false
set_option maxRecDepth 100000
namespace Go.Mach.Ytl
open Go.Mach
def splitE (a m : Mo) (q : Nat) : Mo := if a.get q = 0 ∨ m.get q < a.get q then a.setI q (m.get q) else a
def splitL (a m : Mo) : List Mo := ((List.range 8).filter fun q => decide (0 < m.get q)).map (splitE a m)
theorem splitE_inQ {a m t : Mo} {q : Nat} (hq : q < 8) (hm : 0 < m.get q) (ha : a.nn) : inQ (splitE a m q) t ↔ inQ a t ∨ m.get q ≤ t.get q := by
  have haq := nn_get.1 ha q hq
  unfold splitE
  split
  · rename_i hc
    constructor
    · rintro ⟨j, hj, h0, h1⟩
      rw [get_set hq] at h0 h1
      by_cases e : j = q
      · subst e; rw [if_pos rfl] at h1; exact .inr h1
      · rw [if_neg e] at h0 h1; exact .inl ⟨j, hj, h0, h1⟩
    · rintro (⟨j, hj, h0, h1⟩ | h)
      · by_cases e : j = q
        · subst e
          exact ⟨j, hj, by rw [get_set hq, if_pos rfl]; exact hm, by rw [get_set hq, if_pos rfl]; omega⟩
        · exact ⟨j, hj, by rw [get_set hq, if_neg e]; exact h0, by rw [get_set hq, if_neg e]; exact h1⟩
      · exact ⟨q, hq, by rw [get_set hq, if_pos rfl]; exact hm, by rw [get_set hq, if_pos rfl]; exact h⟩
  · rename_i hc
    constructor
    · exact .inl
    · rintro (h | h)
      · exact h
      · exact ⟨q, hq, by omega, by omega⟩
theorem splitL_len {a m : Mo} : (splitL a m).length ≤ 8 := by
  unfold splitL
  rw [List.length_map]
  have := List.length_filter_le (fun q => decide (0 < m.get q)) (List.range 8)
  simpa using this
theorem splitL_inQ {a m t : Mo} (ha : a.nn) (hm : m.nn) (ht : t.nn) : (∀ b ∈ splitL a m, inQ b t) ↔ inQ a t ∨ Mo.le m t := by
  have hmem : ∀ b, b ∈ splitL a m ↔ ∃ q, q < 8 ∧ 0 < m.get q ∧ splitE a m q = b := fun b => by
    simp only [splitL, List.mem_map, List.mem_filter, List.mem_range, decide_eq_true_eq]
    constructor
    · rintro ⟨q, ⟨h1, h2⟩, h3⟩; exact ⟨q, h1, h2, h3⟩
    · rintro ⟨q, h1, h2, h3⟩; exact ⟨q, ⟨h1, h2⟩, h3⟩
  constructor
  · intro h
    by_cases hi : inQ a t
    · exact .inl hi
    · right
      rw [le_get]
      intro q hq
      by_cases h0 : 0 < m.get q
      · have := (splitE_inQ hq h0 ha).1 (h _ ((hmem _).2 ⟨q, hq, h0, rfl⟩))
        exact this.resolve_left hi
      · have := nn_get.1 hm q hq; have := nn_get.1 ht q hq; omega
  · intro h b hb
    obtain ⟨q, hq, h0, rfl⟩ := (hmem b).1 hb
    rw [splitE_inQ hq h0 ha]
    exact h.imp id fun h => le_get.1 h q hq
theorem splitL_exps {L : List Mo} {a m : Mo} (hm : m ∈ L) (ha : Exps L a) : ∀ b ∈ splitL a m, Exps L b := fun b hb => by
  simp only [splitL, List.mem_map, List.mem_filter, List.mem_range, decide_eq_true_eq] at hb
  obtain ⟨q, ⟨hq, h0⟩, rfl⟩ := hb
  unfold splitE
  split
  · exact set_exps hq hm h0 ha
  · exact ha
def keepI (l : List Mo) (i : Nat) : Bool := !((List.range l.length).any fun k => insB (l.getD k Mo.zero) (l.getD i Mo.zero) && (!decide (l.getD k Mo.zero = l.getD i Mo.zero) || decide (k < i)))
def leastL (l : List Mo) : List Mo := ((List.range l.length).filter (keepI l)).map fun i => l.getD i Mo.zero
theorem getD_at {l : List Mo} {i : Nat} (h : i < l.length) : l.getD i Mo.zero = l[i] := by
  rw [List.getD_eq_getElem?_getD, List.getElem?_eq_getElem h]; rfl
theorem keepI_iff {l : List Mo} {i : Nat} (hi : i < l.length) : keepI l i = true ↔ ∀ k (hk : k < l.length), insB l[k] l[i] = true → l[k] = l[i] ∧ i ≤ k := by
  unfold keepI
  rw [Bool.not_eq_true', List.any_eq_false]
  constructor
  · intro h k hk hin
    have := h k (by simpa using hk)
    rw [getD_at hk, getD_at hi, hin] at this
    simp only [Bool.true_and, Bool.or_eq_true, Bool.not_eq_true', decide_eq_false_iff_not, decide_eq_true_eq, not_or, Classical.not_not] at this
    exact ⟨this.1, by omega⟩
  · intro h k hk
    have hk' : k < l.length := by simpa using hk
    rw [getD_at hk', getD_at hi]
    simp only [Bool.and_eq_true, Bool.or_eq_true, Bool.not_eq_true', decide_eq_false_iff_not, decide_eq_true_eq, not_and, not_or, Classical.not_not]
    intro hin
    obtain ⟨h1, h2⟩ := h k hk' hin
    exact ⟨h1, by omega⟩
theorem first_at {l : List Mo} {x : Mo} (h : x ∈ l) : ∃ i, ∃ hi : i < l.length, l[i] = x ∧ ∀ k (hk : k < l.length), l[k] = x → i ≤ k := by
  induction l with
  | nil => cases h
  | cons a l ih =>
    by_cases e : a = x
    · exact ⟨0, by simp, by simpa using e, fun k _ _ => Nat.zero_le k⟩
    · obtain ⟨i, hi, h1, h2⟩ := ih ((List.mem_cons.1 h).resolve_left fun h => e h.symm)
      refine ⟨i + 1, by simp; omega, by simpa using h1, fun k hk hx => ?_⟩
      cases k with
      | zero => exact absurd (by simpa using hx) e
      | succ k =>
        have := h2 k (by simpa using hk) (by simpa using hx)
        omega
theorem leastL_mem {l : List Mo} {x : Mo} : x ∈ leastL l ↔ x ∈ l ∧ keepB l x = true := by
  simp only [leastL, List.mem_map, List.mem_filter, List.mem_range]
  rw [keepB_iff]
  constructor
  · rintro ⟨i, ⟨hi, hk⟩, rfl⟩
    rw [getD_at hi]
    refine ⟨List.getElem_mem hi, fun c hc hin => ?_⟩
    obtain ⟨k, hk', rfl⟩ := List.getElem_of_mem hc
    exact ((keepI_iff hi).1 hk k hk' hin).1.symm
  · rintro ⟨hx, hk⟩
    obtain ⟨i, hi, rfl, hmin⟩ := first_at hx
    refine ⟨i, ⟨hi, (keepI_iff hi).2 fun k hk' hin => ?_⟩, getD_at hi⟩
    have := hk _ (List.getElem_mem hk') hin
    exact ⟨this.symm, hmin k hk' this.symm⟩
theorem leastL_nodup {l : List Mo} : (leastL l).Nodup := by
  unfold leastL
  rw [List.nodup_iff_pairwise_ne, List.pairwise_map]
  have hp : ((List.range l.length).filter (keepI l)).Pairwise (· < ·) := List.pairwise_lt_range.sublist List.filter_sublist
  refine List.Pairwise.imp_of_mem ?_ hp
  intro i j hi hj hij he
  obtain ⟨hi1, _⟩ := List.mem_filter.1 hi
  obtain ⟨hj1, hj2⟩ := List.mem_filter.1 hj
  have hi1' : i < l.length := by simpa using hi1
  have hj1' : j < l.length := by simpa using hj1
  rw [getD_at hi1', getD_at hj1'] at he
  have := (keepI_iff hj1').1 hj2 i hi1' (by rw [he]; exact insB_refl)
  omega
theorem leastL_same {l : List Mo} {x : Mo} : x ∈ leastL l ↔ x ∈ insF l := by rw [leastL_mem, insF_mem]
def stepR (out : List Mo) (m : Mo) : List Mo := leastL (out.flatMap fun a => splitL a m)
theorem stepR_good {L : List Mo} {m : Mo} (hm : m ∈ L) (hmn : m.nn) {out : List Mo} (h : Good L out) : Good L (stepR out m) ∧ ∀ t, t.nn → ((∀ b ∈ stepR out m, inQ b t) ↔ (∀ b ∈ out, inQ b t) ∨ Mo.le m t) := by
  have hex : ∀ b ∈ out.flatMap (fun a => splitL a m), Exps L b := fun b hb => by
    obtain ⟨a, ha, hb⟩ := List.mem_flatMap.1 hb
    exact splitL_exps hm (h.exps a ha) b hb
  have hnn : ∀ b ∈ out.flatMap (fun a => splitL a m), b.nn := fun b hb => nn_get.2 fun q _ => by
    rcases hex b hb q with e | ⟨a, _, h0, e⟩ <;> omega
  refine ⟨⟨leastL_nodup, fun b hb => hex b (leastL_mem.1 hb).1, fun b hb c hc hin => keepB_iff.1 (leastL_mem.1 hb).2 c (leastL_mem.1 hc).1 hin⟩, fun t ht => ?_⟩
  have e1 : (∀ b ∈ stepR out m, inQ b t) ↔ ∀ b ∈ insF (out.flatMap fun a => splitL a m), inQ b t := ⟨fun h b hb => h b (leastL_same.2 hb), fun h b hb => h b (leastL_same.1 hb)⟩
  rw [e1, insF_sem hnn]
  constructor
  · intro h2
    by_cases hl : Mo.le m t
    · exact .inr hl
    · left
      intro a ha
      have := (splitL_inQ (h.nn a ha) hmn ht).1 fun b hb => h2 b (List.mem_flatMap.2 ⟨a, ha, hb⟩)
      exact this.resolve_right hl
  · intro h2 b hb
    obtain ⟨a, ha, hb⟩ := List.mem_flatMap.1 hb
    exact (splitL_inQ (h.nn a ha) hmn ht).2 (h2.imp (fun h => h a ha) id) b hb
theorem foldR_good {L : List Mo} : ∀ (gens out : List Mo), (∀ m ∈ gens, m ∈ L ∧ m.nn) → Good L out → Good L (gens.foldl stepR out) ∧ ∀ t, t.nn → ((∀ b ∈ gens.foldl stepR out, inQ b t) ↔ (∀ b ∈ out, inQ b t) ∨ ∃ m ∈ gens, Mo.le m t)
  | [], out, _, h => ⟨h, fun t _ => by simp⟩
  | m :: gens, out, hg, h => by
    simp only [List.foldl_cons]
    have hm := hg m List.mem_cons_self
    have h1 := stepR_good hm.1 hm.2 h
    have ih := foldR_good gens (stepR out m) (fun b hb => hg b (List.mem_cons_of_mem _ hb)) h1.1
    refine ⟨ih.1, fun t ht => ?_⟩
    rw [ih.2 t ht, h1.2 t ht]
    simp only [List.mem_cons, exists_eq_or_imp]
    constructor
    · rintro ((h | h) | h)
      · exact .inl h
      · exact .inr (.inl h)
      · exact .inr (.inr h)
    · rintro (h | h | h)
      · exact .inl (.inl h)
      · exact .inl (.inr h)
      · exact .inr h
theorem refR_sem {L G : List Mo} (hg : ∀ m ∈ G, m ∈ L ∧ m.nn) {t : Mo} (ht : t.nn) : (∀ b ∈ G.foldl stepR [Mo.zero], inQ b t) ↔ ∃ m ∈ G, Mo.le m t := by
  rw [(foldR_good G [Mo.zero] hg Good.one).2 t ht]
  constructor
  · rintro (k | k)
    · obtain ⟨q, _, h0, _⟩ := k Mo.zero (by simp)
      rw [zero_get] at h0; omega
    · exact k
  · exact .inr
def posP (x : Mo) : List Mo → Nat
  | [] => 0
  | b :: l => if Mo.cmp b x = 1 then posP x l + 1 else 0
def putD (x : Mo) (l : List Mo) : List Mo := l.take (posP x l) ++ [x] ++ l.drop (posP x l)
theorem posP_le {x : Mo} : ∀ l : List Mo, posP x l ≤ l.length
  | [] => Nat.le_refl _
  | b :: l => by
    have := posP_le (x := x) l
    simp only [posP, List.length_cons]; split <;> omega
theorem putD_cons_lt {x b : Mo} {l : List Mo} (h : Mo.cmp b x = 1) : putD x (b :: l) = b :: putD x l := by
  simp [putD, posP, h]
theorem putD_cons_ge {x b : Mo} {l : List Mo} (h : ¬ Mo.cmp b x = 1) : putD x (b :: l) = x :: b :: l := by
  simp [putD, posP, h]
theorem putD_perm {x : Mo} : ∀ l : List Mo, (putD x l).Perm (x :: l)
  | [] => by simp [putD, posP]
  | b :: l => by
    by_cases h : Mo.cmp b x = 1
    · rw [putD_cons_lt h]
      exact ((putD_perm l).cons b).trans (List.Perm.swap x b l)
    · rw [putD_cons_ge h]
theorem putD_desc {x : Mo} : ∀ l : List Mo, Desc l → x ∉ l → Desc (putD x l)
  | [], _, _ => by simp [putD, posP, Desc]
  | b :: l, hd, hx => by
    have hd' := List.pairwise_cons.1 hd
    by_cases h : Mo.cmp b x = 1
    · rw [putD_cons_lt h]
      refine List.pairwise_cons.2 ⟨fun y hy => ?_, putD_desc l hd'.2 fun h => hx (List.mem_cons_of_mem _ h)⟩
      rcases List.mem_cons.1 ((putD_perm l).mem_iff.1 hy) with e | hy
      · subst e; exact h
      · exact hd'.1 y hy
    · rw [putD_cons_ge h]
      have hne : b ≠ x := fun e => hx (by simp [e])
      have hxb : Mo.cmp x b = 1 := by
        rw [cmp_neg]
        rcases cmp_pm (a := b) (b := x) with e | e | e
        · omega
        · exact absurd (cmp_eq.1 e) hne
        · exact absurd e h
      refine List.pairwise_cons.2 ⟨fun y hy => ?_, hd⟩
      rcases List.mem_cons.1 hy with e | hy
      · subst e; exact hxb
      · exact cmp_tr hxb (hd'.1 y hy)
def sortL (l : List Mo) : List Mo := l.foldl (fun out x => putD x out) []
theorem sort_fold : ∀ (l out : List Mo), Desc out → (out ++ l).Nodup → Desc (l.foldl (fun out x => putD x out) out) ∧ (l.foldl (fun out x => putD x out) out).Perm (out ++ l)
  | [], out, hd, _ => ⟨hd, by simp⟩
  | x :: l, out, hd, hn => by
    have hx : x ∉ out := fun h => by
      rw [List.nodup_append] at hn
      exact hn.2.2 x h x (by simp) rfl
    have hp : (putD x out ++ l).Perm (out ++ x :: l) := by
      refine ((putD_perm out).append_right l).trans ?_
      rw [List.cons_append]
      exact List.perm_middle.symm
    have ih := sort_fold l (putD x out) (putD_desc out hd hx) (hp.nodup_iff.2 hn)
    exact ⟨ih.1, ih.2.trans hp⟩
theorem sortL_irr {L G r : List Mo} (hg : ∀ m ∈ G, m ∈ L ∧ m.nn) (hG : ∀ t, (∃ m ∈ G, Mo.le m t) ↔ ∃ m ∈ L, Mo.le m t) (hr : r = G.foldl stepR [Mo.zero]) : Irr L (sortL r) := by
  have hgood := (foldR_good G [Mo.zero] hg Good.one).1
  rw [← hr] at hgood
  obtain ⟨h1, h2⟩ := sort_fold r [] .nil (by simpa using hgood.nodup)
  have h2' : (sortL r).Perm r := h2
  refine ⟨h1, hgood.perm h2', fun t ht => ?_⟩
  rw [← hG t, ← refR_sem hg ht, ← hr]
  exact ⟨fun h b hb => h b (h2'.mem_iff.2 hb), fun h b hb => h b (h2'.mem_iff.1 hb)⟩
end Go.Mach.Ytl
set_option linter.unusedSimpArgs false
set_option linter.unusedVariables false
set_option maxRecDepth 100000
namespace Go.Mach.Ytl
open Go.Mach
section
variable {s : List Jtm} {k : KF} {Q : AV → Heap → Prop}
attribute [local simp] guardI_u
theorem shr_all : ((List.range 5).all fun n => (List.range (2 ^ n)).all fun s => shrK .i64 (s : Nat) (n : Nat) == 0) = true := by decide +kernel
theorem shr_zero {n s : Nat} (hn : n ≤ 4) (hs : s < 2 ^ n) : shrK .i64 (s : Nat) (n : Nat) = 0 := by
  have := (List.all_eq_true.1 ((List.all_eq_true.1 shr_all) n (by simp; omega))) s (by simpa using hs)
  simpa using this
theorem l1035_2 {v : AV} {L : List Mo} {n : Nat} (hv : ML tM v L) (hl : L.length < 2 ^ 40) (hn : n ≤ 4) (hL : ∀ m ∈ L, Box n m) {H : Heap} : ∀ (m j : Nat) (σ : Sig), L.length - j = m → j ≤ L.length → σ 0 = v → σ 1 = .int .i64 (n : Nat) → σ 5 = .int .i64 (j : Nat) →
    (∀ σ', σ' 0 = v → Res (ai (callI tab) s k .nrm σ' H) Q) →
    Res (li (callI tab) L1035_2 (.inBlock 0 :: s) k σ H) Q := by
  intro m
  have hln := (hv.rd H).1
  induction m with
  | zero =>
    intro j σ hm hj h0 h1 h5 hQ
    obtain ⟨il, hil⟩ : ∃ x, x = Jtm.inLoop L1035_2 := ⟨_, rfl⟩; rw [li_eq' il hil]
    simp -implicitDefEqProofs (disch := first | omega | with_unfolding_all exact eqR (Eq.refl _)) [nums, -getElem!_pos, -Int.natCast_add, -Int.natCast_mul, -Int.natCast_ediv, L1035_2, h0, h1, h5, hln]
    subst hil
    try simp -implicitDefEqProofs (disch := first | omega | with_unfolding_all exact eqR (Eq.refl _)) [nums, -getElem!_pos, -Int.natCast_add, -Int.natCast_mul, -Int.natCast_ediv]
    refine hQ _ ?_
    simp [h0]
  | succ m ih =>
    intro j σ hm hj h0 h1 h5 hQ
    have hjl : j < L.length := by omega
    obtain ⟨p, e1, e2⟩ := ml_at hv H hjl
    have hb := hL _ (List.getElem_mem hjl)
    have hval := hb.valid
    have hsh := shr_zero hn (sup_small hb hn)
    have hw : IntKind.i64.wrap ((supN L[j] : Nat) : Int) = (supN L[j] : Nat) := wrap_nat (by have := supN_lt L[j]; omega)
    obtain ⟨il, hil⟩ : ∃ x, x = Jtm.inLoop L1035_2 := ⟨_, rfl⟩; rw [li_eq' il hil]
    simp -implicitDefEqProofs (disch := first | omega | with_unfolding_all exact eqR (Eq.refl _)) [nums, -getElem!_pos, -Int.natCast_add, -Int.natCast_mul, -Int.natCast_ediv, L1035_2, S1035_1, h0, h1, h5, hln, e1, e2, call_47', hval, call_44', hw, hsh, S1035_0]
    subst hil
    try simp -implicitDefEqProofs (disch := first | omega | with_unfolding_all exact eqR (Eq.refl _)) [nums, -getElem!_pos, -Int.natCast_add, -Int.natCast_mul, -Int.natCast_ediv]
    refine ih (j + 1) _ (by omega) (by omega) ?_ ?_ ?_ hQ
    all_goals simp [h0, h1]
theorem call_1035 {v : AV} {L : List Mo} {n : Nat} {H : Heap} (hv : ML tM v L) (hl : L.length ≤ 8) (hn : n ≤ 4) (hL : ∀ m ∈ L, Box n m) : callI tab 35 [v, .int .i64 n] H = some (.int .i64 0, H) := by
  have hf := hv.frz
  have hln := fun H => (hv.rd H).1
  have hn8 : ¬ (8 : Int) < (n : Nat) := by omega
  have hL8 : ¬ (8 : Int) < (L.length : Nat) := by omega
  have : Res (callI tab 35 [v, .int .i64 n] H) fun e H' => e = .int .i64 0 ∧ H' = H := by
    refine .hide fun Q hQ => .enter tab_1035 (by simp [AF1035]) (.inr (by simp [hf])) ?_
    simp -implicitDefEqProofs (disch := first | omega | with_unfolding_all exact eqR (Eq.refl _)) [nums, -getElem!_pos, -Int.natCast_add, -Int.natCast_mul, -Int.natCast_ediv, AF1035, hn8, S1035_5]
    refine l1035_2 hv (by omega) hn hL _ 0 _ rfl (by omega) ?_ ?_ ?_ fun σ' q0 => ?_
    any_goals (first | (simp; done) | skip)
    simp -implicitDefEqProofs (disch := first | omega | with_unfolding_all exact eqR (Eq.refl _)) [nums, -getElem!_pos, -Int.natCast_add, -Int.natCast_mul, -Int.natCast_ediv, S1035_4, q0, hln, hL8, S1035_3]
    exact .mk (hQ _ _ ⟨rfl, rfl⟩)
  obtain ⟨e, H', h, rfl, rfl⟩ := this
  exact h
theorem l1064_2 {a c : Mo} {ba bc : Nat} {H0 H : Heap} (oa : H.obj ba = .cells a.cells none) (oc : H.obj bc = .cells c.cells none) : ∀ (m j : Nat) (σ : Sig), 8 - j = m → j ≤ 8 → σ 2 = .ptr ba 0 → σ 3 = .ptr bc 0 → σ 5 = .int .i64 (j : Nat) →
    Res (some (wrapA H0 (.bool (((List.range 8).drop j).all fun q => !(decide (0 < a.get q) && (decide (c.get q = 0) || decide (a.get q < c.get q))))) H)) Q →
    Res (li (callI tab) L1064_2 [.inBlock 0, .code S1064_3] (fink [.tmp 4] true H0) σ H) Q := by
  intro m
  induction m with
  | zero =>
    intro j σ hm hj h2 h3 h5 hQ
    have : j = 8 := by omega
    subst this
    obtain ⟨il, hil⟩ : ∃ x, x = Jtm.inLoop L1064_2 := ⟨_, rfl⟩; rw [li_eq' il hil]
    simp -implicitDefEqProofs (disch := first | omega | with_unfolding_all exact eqR (Eq.refl _)) [nums, -getElem!_pos, -Int.natCast_add, -Int.natCast_mul, -Int.natCast_ediv, L1064_2, h2, h3, h5]
    subst hil
    try simp -implicitDefEqProofs (disch := first | omega | with_unfolding_all exact eqR (Eq.refl _)) [nums, -getElem!_pos, -Int.natCast_add, -Int.natCast_mul, -Int.natCast_ediv, S1064_3]
    exact hQ
  | succ m ih =>
    intro j σ hm hj h2 h3 h5 hQ
    have hj8 : j < 8 := by omega
    have c8 : ((j : Nat) : Int) < 8 := by omega
    rw [List.drop_eq_getElem_cons (by simp; omega), List.getElem_range, List.all_cons] at hQ
    by_cases h0 : 0 < a.get j
    · rw [decide_eq_true h0, Bool.true_and] at hQ
      by_cases hz : c.get j = 0
      · rw [decide_eq_true hz, Bool.true_or, Bool.not_true, Bool.false_and] at hQ
        obtain ⟨il, hil⟩ : ∃ x, x = Jtm.inLoop L1064_2 := ⟨_, rfl⟩; rw [li_eq' il hil]
        simp -implicitDefEqProofs (disch := first | omega | with_unfolding_all exact eqR (Eq.refl _)) [nums, -getElem!_pos, -Int.natCast_add, -Int.natCast_mul, -Int.natCast_ediv, L1064_2, S1064_1, h2, h3, h5, c8, iaddr_arr, oa, oc, loadI, h0, hz]
        subst hil
        try simp -implicitDefEqProofs (disch := first | omega | with_unfolding_all exact eqR (Eq.refl _)) [nums, -getElem!_pos, -Int.natCast_add, -Int.natCast_mul, -Int.natCast_ediv]
        exact hQ
      · rw [decide_eq_false hz, Bool.false_or] at hQ
        by_cases hg : a.get j < c.get j
        · rw [decide_eq_true hg, Bool.not_true, Bool.false_and] at hQ
          obtain ⟨il, hil⟩ : ∃ x, x = Jtm.inLoop L1064_2 := ⟨_, rfl⟩; rw [li_eq' il hil]
          simp -implicitDefEqProofs (disch := first | omega | with_unfolding_all exact eqR (Eq.refl _)) [nums, -getElem!_pos, -Int.natCast_add, -Int.natCast_mul, -Int.natCast_ediv, L1064_2, S1064_1, h2, h3, h5, c8, iaddr_arr, oa, oc, loadI, h0, hz, hg]
          subst hil
          try simp -implicitDefEqProofs (disch := first | omega | with_unfolding_all exact eqR (Eq.refl _)) [nums, -getElem!_pos, -Int.natCast_add, -Int.natCast_mul, -Int.natCast_ediv]
          exact hQ
        · rw [decide_eq_false hg, Bool.not_false, Bool.true_and] at hQ
          obtain ⟨il, hil⟩ : ∃ x, x = Jtm.inLoop L1064_2 := ⟨_, rfl⟩; rw [li_eq' il hil]
          simp -implicitDefEqProofs (disch := first | omega | with_unfolding_all exact eqR (Eq.refl _)) [nums, -getElem!_pos, -Int.natCast_add, -Int.natCast_mul, -Int.natCast_ediv, L1064_2, S1064_1, h2, h3, h5, c8, iaddr_arr, oa, oc, loadI, h0, hz, hg, S1064_0]
          subst hil
          try simp -implicitDefEqProofs (disch := first | omega | with_unfolding_all exact eqR (Eq.refl _)) [nums, -getElem!_pos, -Int.natCast_add, -Int.natCast_mul, -Int.natCast_ediv]
          refine ih (j + 1) _ (by omega) (by omega) ?_ ?_ ?_ hQ
          all_goals simp [h2, h3]
    · rw [decide_eq_false h0, Bool.false_and, Bool.not_false, Bool.true_and] at hQ
      obtain ⟨il, hil⟩ : ∃ x, x = Jtm.inLoop L1064_2 := ⟨_, rfl⟩; rw [li_eq' il hil]
      simp -implicitDefEqProofs (disch := first | omega | with_unfolding_all exact eqR (Eq.refl _)) [nums, -getElem!_pos, -Int.natCast_add, -Int.natCast_mul, -Int.natCast_ediv, L1064_2, S1064_1, h2, h3, h5, c8, iaddr_arr, oa, oc, loadI, h0, S1064_0]
      subst hil
      try simp -implicitDefEqProofs (disch := first | omega | with_unfolding_all exact eqR (Eq.refl _)) [nums, -getElem!_pos, -Int.natCast_add, -Int.natCast_mul, -Int.natCast_ediv]
      refine ih (j + 1) _ (by omega) (by omega) ?_ ?_ ?_ hQ
      all_goals simp [h2, h3]
theorem call_1064 {a c : Mo} {H : Heap} : callI tab 64 [mono a, mono c] H = some (.bool (insB a c), H) := by
  have : Res (callI tab 64 [mono a, mono c] H) fun e H' => e = .bool (insB a c) ∧ H' = H := by
    refine .hide fun Q hQ => .enter tab_1064 (by simp [AF1064]) (.inr (by simp)) ?_
    simp -implicitDefEqProofs (disch := first | omega | with_unfolding_all exact eqR (Eq.refl _)) [nums, -getElem!_pos, -Int.natCast_add, -Int.natCast_mul, -Int.natCast_ediv, AF1064]
    refine l1064_2 (a := a) (c := c) (ba := H.next) (bc := H.next + 1) (by simp [Heap.new, upd]) (by simp [Heap.new, upd]) _ 0 _ rfl (by omega) ?_ ?_ ?_ ?_
    any_goals (first | (simp; done) | skip)
    have hq : ∀ b : Bool, (AV.bool b).noNew H.next 4 = true := fun _ => rfl
    try rw [wrap_quiet (by rfl) (hq _)]
    exact .mk (hQ _ _ ⟨by rw [List.drop_zero]; rfl, rfl⟩)
  obtain ⟨e, H', h, rfl, rfl⟩ := this
  exact h
theorem l1037_3 {a m : Mo} {H0 : Heap} (hb : H0.base ≤ H0.next) {b2 b3 : Nat} (h2b : b2 < H0.next) (h3b : b3 < H0.next) (o2 : H0.obj b2 = .cells a.cells none) (o3 : H0.obj b3 = .cells m.cells none) : ∀ (r j : Nat) (σ : Sig) (H : Heap) (w : AV) (cur : List Mo), 8 - j = r → j ≤ 8 → σ 2 = .ptr b2 0 → σ 3 = .ptr b3 0 → σ 5 = w → σ 6 = .int .i64 (j : Nat) → Acc tM H0 H w cur → Ow H0 H → cur.length ≤ j →
    (∀ σ' H' w', σ' 5 = w' → Acc tM H0 H' w' (cur ++ (((List.range 8).drop j).filter fun q => decide (0 < m.get q)).map (splitE a m)) → Ow H0 H' → Res (ai (callI tab) s k .nrm σ' H') Q) →
    Res (li (callI tab) L1037_3 (.inBlock 0 :: s) k σ H) Q := by
  intro r
  induction r with
  | zero =>
    intro j σ H w cur hr hj h2 h3 h5 h6 ha ho hlen hQ
    have : j = 8 := by omega
    subst this
    obtain ⟨il, hil⟩ : ∃ x, x = Jtm.inLoop L1037_3 := ⟨_, rfl⟩; rw [li_eq' il hil]
    simp -implicitDefEqProofs (disch := first | omega | with_unfolding_all exact eqR (Eq.refl _)) [nums, -getElem!_pos, -Int.natCast_add, -Int.natCast_mul, -Int.natCast_ediv, L1037_3, h2, h3, h5, h6]
    subst hil
    try simp -implicitDefEqProofs (disch := first | omega | with_unfolding_all exact eqR (Eq.refl _)) [nums, -getElem!_pos, -Int.natCast_add, -Int.natCast_mul, -Int.natCast_ediv]
    refine hQ _ _ w ?_ (by rw [List.drop_of_length_le (by simp)]; simpa using ha) ho <;> simp [h5]
  | succ r ih =>
    intro j σ H w cur hr hj h2 h3 h5 h6 ha ho hlen hQ
    have hj8 : j < 8 := by omega
    have c8 : ((j : Nat) : Int) < 8 := by omega
    have hnx := ho.next
    have p2 : H.obj b2 = .cells a.cells none := by rw [ho.obj b2 h2b]; exact o2
    have p3 : H.obj b3 = .cells m.cells none := by rw [ho.obj b3 h3b]; exact o3
    have n2 : ¬ b2 = H.next := by omega
    have n3 : ¬ b3 = H.next := by omega
    rw [List.drop_eq_getElem_cons (by simp; omega), List.getElem_range] at hQ
    by_cases h0 : 0 < m.get j
    · rw [List.filter_cons_of_pos (by simpa using h0), List.map_cons, ← List.singleton_append, ← List.append_assoc] at hQ
      by_cases hc : a.get j = 0 ∨ m.get j < a.get j
      · have hsp : splitE a m j = a.setI j (m.get j) := by unfold splitE; rw [if_pos hc]
        rw [hsp] at hQ
        have hwA : Ow H0 (((H.new (.cells Mo.zero.cells none)).set H.next (.cells a.cells none)).set H.next (.cells (a.setI j (m.get j)).cells none)) := ((ho.new _).set _ hnx hb).set _ hnx hb
        have aA : Acc tM H0 (((H.new (.cells Mo.zero.cells none)).set H.next (.cells a.cells none)).set H.next (.cells (a.setI j (m.get j)).cells none)) w cur := ha.other (by show H.next ≤ H.next + 1; omega) fun i h1 h2 => by simp only [Heap.new, Heap.set, upd]; rw [if_neg (by omega), if_neg (by omega), if_neg (by omega)]
        obtain ⟨w', H', e3, ha', ho'⟩ := aA.app (m := [a.setI j (m.get j)]) (bs := 64) (ex := true) (n := 1) hwA hb (by simp) rfl (by simp; omega)
        rw [show tM.e = 8 from rfl, ← row_one] at e3
        by_cases hz : a.get j = 0
        · obtain ⟨il, hil⟩ : ∃ x, x = Jtm.inLoop L1037_3 := ⟨_, rfl⟩; rw [li_eq' il hil]
          simp -implicitDefEqProofs (disch := first | omega | with_unfolding_all exact eqR (Eq.refl _)) [nums, -getElem!_pos, -Int.natCast_add, -Int.natCast_mul, -Int.natCast_ediv, L1037_3, S1037_2, h2, h3, h5, h6, c8, iaddr_arr, p2, p3, n2, n3, loadI, h0, hz, ldM, storeZ, storeI, S1037_0, bslR_mono, e3, S1037_1]
          subst hil
          try simp -implicitDefEqProofs (disch := first | omega | with_unfolding_all exact eqR (Eq.refl _)) [nums, -getElem!_pos, -Int.natCast_add, -Int.natCast_mul, -Int.natCast_ediv]
          refine ih (j + 1) _ H' w' _ (by omega) (by omega) ?_ ?_ ?_ ?_ ha' ho' (by simp; omega) hQ
          all_goals simp [h2, h3]
        · have hg : m.get j < a.get j := hc.resolve_left hz
          obtain ⟨il, hil⟩ : ∃ x, x = Jtm.inLoop L1037_3 := ⟨_, rfl⟩; rw [li_eq' il hil]
          simp -implicitDefEqProofs (disch := first | omega | with_unfolding_all exact eqR (Eq.refl _)) [nums, -getElem!_pos, -Int.natCast_add, -Int.natCast_mul, -Int.natCast_ediv, L1037_3, S1037_2, h2, h3, h5, h6, c8, iaddr_arr, p2, p3, n2, n3, loadI, h0, hz, hg, ldM, storeZ, storeI, S1037_0, bslR_mono, e3, S1037_1]
          subst hil
          try simp -implicitDefEqProofs (disch := first | omega | with_unfolding_all exact eqR (Eq.refl _)) [nums, -getElem!_pos, -Int.natCast_add, -Int.natCast_mul, -Int.natCast_ediv]
          refine ih (j + 1) _ H' w' _ (by omega) (by omega) ?_ ?_ ?_ ?_ ha' ho' (by simp; omega) hQ
          all_goals simp [h2, h3]
      · have hsp : splitE a m j = a := by unfold splitE; rw [if_neg hc]
        rw [hsp] at hQ
        have hz : ¬ a.get j = 0 := fun h => hc (.inl h)
        have hg : ¬ m.get j < a.get j := fun h => hc (.inr h)
        have hwA : Ow H0 ((H.new (.cells Mo.zero.cells none)).set H.next (.cells a.cells none)) := (ho.new _).set _ hnx hb
        have aA : Acc tM H0 ((H.new (.cells Mo.zero.cells none)).set H.next (.cells a.cells none)) w cur := ha.other (by show H.next ≤ H.next + 1; omega) fun i h1 h2 => by simp only [Heap.new, Heap.set, upd]; rw [if_neg (by omega), if_neg (by omega)]
        obtain ⟨w', H', e3, ha', ho'⟩ := aA.app (m := [a]) (bs := 64) (ex := true) (n := 1) hwA hb (by simp) rfl (by simp; omega)
        rw [show tM.e = 8 from rfl, ← row_one] at e3
        obtain ⟨il, hil⟩ : ∃ x, x = Jtm.inLoop L1037_3 := ⟨_, rfl⟩; rw [li_eq' il hil]
        simp -implicitDefEqProofs (disch := first | omega | with_unfolding_all exact eqR (Eq.refl _)) [nums, -getElem!_pos, -Int.natCast_add, -Int.natCast_mul, -Int.natCast_ediv, L1037_3, S1037_2, h2, h3, h5, h6, c8, iaddr_arr, p2, p3, n2, n3, loadI, h0, hz, hg, ldM, storeZ, S1037_0, bslR_mono, e3, S1037_1]
        subst hil
        try simp -implicitDefEqProofs (disch := first | omega | with_unfolding_all exact eqR (Eq.refl _)) [nums, -getElem!_pos, -Int.natCast_add, -Int.natCast_mul, -Int.natCast_ediv]
        refine ih (j + 1) _ H' w' _ (by omega) (by omega) ?_ ?_ ?_ ?_ ha' ho' (by simp; omega) hQ
        all_goals simp [h2, h3]
    · rw [List.filter_cons_of_neg (by simpa using h0)] at hQ
      obtain ⟨il, hil⟩ : ∃ x, x = Jtm.inLoop L1037_3 := ⟨_, rfl⟩; rw [li_eq' il hil]
      simp -implicitDefEqProofs (disch := first | omega | with_unfolding_all exact eqR (Eq.refl _)) [nums, -getElem!_pos, -Int.natCast_add, -Int.natCast_mul, -Int.natCast_ediv, L1037_3, S1037_2, h2, h3, h5, h6, c8, iaddr_arr, p2, p3, loadI, h0, S1037_1]
      subst hil
      try simp -implicitDefEqProofs (disch := first | omega | with_unfolding_all exact eqR (Eq.refl _)) [nums, -getElem!_pos, -Int.natCast_add, -Int.natCast_mul, -Int.natCast_ediv]
      refine ih (j + 1) _ H w cur (by omega) (by omega) ?_ ?_ ?_ ?_ ha ho (by omega) hQ
      all_goals simp [h2, h3, h5]
theorem call_1037 {a m : Mo} {H : Heap} : Res (callI tab 37 [mono a, mono m] H) fun e H' => H' = H ∧ ML tM e (splitL a m) := by
  refine .hide fun Q hQ => .enter tab_1037 (by simp [AF1037]) (.inr (by simp)) ?_
  simp -implicitDefEqProofs (disch := first | omega | with_unfolding_all exact eqR (Eq.refl _)) [nums, -getElem!_pos, -Int.natCast_add, -Int.natCast_mul, -Int.natCast_ediv, AF1037]
  refine l1037_3 (a := a) (m := m) (H0 := (H.begin.new (.cells a.cells none)).new (.cells m.cells none)) (by show H.next ≤ H.next + 1 + 1; omega) (b2 := H.next) (b3 := H.next + 1) (by show H.next < H.next + 1 + 1; omega) (by show H.next + 1 < H.next + 1 + 1; omega) (by simp [Heap.new, upd]) (by simp [Heap.new, upd]) _ 0 _ _ (.vec 0 true []) [] rfl (by omega) ?_ ?_ ?_ ?_ .vec (.refl _) (by simp) fun σ' H' w' q5 ha ho => ?_
  any_goals (first | (simp; done) | skip)
  obtain ⟨e, H2, hz, hml, ho2⟩ := ha.frz ho (by show H.next ≤ H.next + 1 + 1; omega) (show H.next ≤ H.next + 1 + 1 by omega) 5
  have hnn := hml.nonew H.next 3
  have hws : H2.ws = [] := ho2.ws
  have hz' : Mach.frz H.next 6 H' w' = some (e, H2) := hz
  simp -implicitDefEqProofs (disch := first | omega | with_unfolding_all exact eqR (Eq.refl _)) [nums, -getElem!_pos, -Int.natCast_add, -Int.natCast_mul, -Int.natCast_ediv, S1037_4, q5, hz', wrap_quiet hws hnn]
  exact .mk (hQ _ _ ⟨rfl, by simpa [splitL] using hml⟩)
theorem l1038_2 {v : AV} {l : List Mo} (hv : ML tM v l) (hl : l.length < 2 ^ 30) {i : Nat} (hi : i < l.length) {x3 : AV} {H : Heap} : ∀ (m j : Nat) (σ : Sig) (f : Bool), l.length - j = m → j ≤ l.length → σ 0 = v → σ 3 = x3 → σ 4 = .int .i64 (i : Nat) → σ 5 = .bool f → σ 6 = .int .i64 (j : Nat) → f = (!((List.range j).any fun q => insB (l.getD q Mo.zero) (l.getD i Mo.zero) && (!decide (l.getD q Mo.zero = l.getD i Mo.zero) || decide (q < i)))) →
    (∀ σ', σ' 0 = v → σ' 3 = x3 → σ' 4 = .int .i64 (i : Nat) → σ' 5 = .bool (keepI l i) → Res (ai (callI tab) s k .nrm σ' H) Q) →
    Res (li (callI tab) L1038_2 (.inBlock 2 :: s) k σ H) Q := by
  intro m
  have hln := (hv.rd H).1
  induction m with
  | zero =>
    intro j σ f hm hj h0 h3 h4 h5 h6 hf hQ
    have : j = l.length := by omega
    subst this
    have hf2 : f = keepI l i := hf
    obtain ⟨il, hil⟩ : ∃ x, x = Jtm.inLoop L1038_2 := ⟨_, rfl⟩; rw [li_eq' il hil]
    simp -implicitDefEqProofs (disch := first | omega | with_unfolding_all exact eqR (Eq.refl _)) [nums, -getElem!_pos, -Int.natCast_add, -Int.natCast_mul, -Int.natCast_ediv, L1038_2, h0, h3, h4, h5, h6, hln]
    subst hil
    try simp -implicitDefEqProofs (disch := first | omega | with_unfolding_all exact eqR (Eq.refl _)) [nums, -getElem!_pos, -Int.natCast_add, -Int.natCast_mul, -Int.natCast_ediv]
    refine hQ _ ?_ ?_ ?_ (by simp [h5, hf2]) <;> simp [h0, h3, h4]
  | succ m ih =>
    intro j σ f hm hj h0 h3 h4 h5 h6 hf hQ
    have hjl : j < l.length := by omega
    obtain ⟨p, e1, e2⟩ := ml_at hv H hjl
    obtain ⟨q, e3, e4⟩ := ml_at hv H hi
    have hstep : (!((List.range (j + 1)).any fun q => insB (l.getD q Mo.zero) (l.getD i Mo.zero) && (!decide (l.getD q Mo.zero = l.getD i Mo.zero) || decide (q < i)))) = (f && !(insB l[j] l[i] && (!decide (l[j] = l[i]) || decide (j < i)))) := by
      rw [List.range_succ, List.any_append, Bool.not_or, ← hf, List.any_cons, List.any_nil, Bool.or_false, getD_at hjl, getD_at hi]
    have c64 := call_1064 (a := l[j]) (c := l[i]) (H := H)
    cases hin : insB l[j] l[i] with
    | false =>
      rw [hin, Bool.false_and, Bool.not_false, Bool.and_true] at hstep
      rw [hin] at c64
      obtain ⟨il, hil⟩ : ∃ x, x = Jtm.inLoop L1038_2 := ⟨_, rfl⟩; rw [li_eq' il hil]
      simp -implicitDefEqProofs (disch := first | omega | with_unfolding_all exact eqR (Eq.refl _)) [nums, -getElem!_pos, -Int.natCast_add, -Int.natCast_mul, -Int.natCast_ediv, L1038_2, S1038_1, h0, h3, h4, h5, h6, hln, e1, e2, e3, e4, c64, S1038_0]
      subst hil
      try simp -implicitDefEqProofs (disch := first | omega | with_unfolding_all exact eqR (Eq.refl _)) [nums, -getElem!_pos, -Int.natCast_add, -Int.natCast_mul, -Int.natCast_ediv]
      refine ih (j + 1) _ f (by omega) (by omega) ?_ ?_ ?_ ?_ ?_ hstep.symm hQ
      all_goals simp [h0, h3, h4, h5]
    | true =>
      rw [hin, Bool.true_and] at hstep
      rw [hin] at c64
      by_cases he : l[j] = l[i]
      · rw [decide_eq_true he, Bool.not_true, Bool.false_or] at hstep
        by_cases hji : j < i
        · rw [decide_eq_true hji, Bool.not_true, Bool.and_false] at hstep
          have cji : ((j : Nat) : Int) < ((i : Nat) : Int) := by omega
          rw [he] at e2 c64
          obtain ⟨il, hil⟩ : ∃ x, x = Jtm.inLoop L1038_2 := ⟨_, rfl⟩; rw [li_eq' il hil]
          simp -implicitDefEqProofs (disch := first | omega | with_unfolding_all exact eqR (Eq.refl _)) [nums, -getElem!_pos, -Int.natCast_add, -Int.natCast_mul, -Int.natCast_ediv, L1038_2, S1038_1, h0, h3, h4, h5, h6, hln, e1, e2, e3, e4, c64, he, cji, S1038_0]
          subst hil
          try simp -implicitDefEqProofs (disch := first | omega | with_unfolding_all exact eqR (Eq.refl _)) [nums, -getElem!_pos, -Int.natCast_add, -Int.natCast_mul, -Int.natCast_ediv]
          refine ih (j + 1) _ false (by omega) (by omega) ?_ ?_ ?_ ?_ ?_ hstep.symm hQ
          all_goals simp [h0, h3, h4, h5]
        · rw [decide_eq_false hji, Bool.not_false, Bool.and_true] at hstep
          have cji : ¬ ((j : Nat) : Int) < ((i : Nat) : Int) := by omega
          rw [he] at e2 c64
          obtain ⟨il, hil⟩ : ∃ x, x = Jtm.inLoop L1038_2 := ⟨_, rfl⟩; rw [li_eq' il hil]
          simp -implicitDefEqProofs (disch := first | omega | with_unfolding_all exact eqR (Eq.refl _)) [nums, -getElem!_pos, -Int.natCast_add, -Int.natCast_mul, -Int.natCast_ediv, L1038_2, S1038_1, h0, h3, h4, h5, h6, hln, e1, e2, e3, e4, c64, he, cji, S1038_0]
          subst hil
          try simp -implicitDefEqProofs (disch := first | omega | with_unfolding_all exact eqR (Eq.refl _)) [nums, -getElem!_pos, -Int.natCast_add, -Int.natCast_mul, -Int.natCast_ediv]
          refine ih (j + 1) _ f (by omega) (by omega) ?_ ?_ ?_ ?_ ?_ hstep.symm hQ
          all_goals simp [h0, h3, h4, h5]
      · rw [decide_eq_false he, Bool.not_false, Bool.true_or, Bool.not_true, Bool.and_false] at hstep
        obtain ⟨il, hil⟩ : ∃ x, x = Jtm.inLoop L1038_2 := ⟨_, rfl⟩; rw [li_eq' il hil]
        simp -implicitDefEqProofs (disch := first | omega | with_unfolding_all exact eqR (Eq.refl _)) [nums, -getElem!_pos, -Int.natCast_add, -Int.natCast_mul, -Int.natCast_ediv, L1038_2, S1038_1, h0, h3, h4, h5, h6, hln, e1, e2, e3, e4, c64, he, S1038_0]
        subst hil
        try simp -implicitDefEqProofs (disch := first | omega | with_unfolding_all exact eqR (Eq.refl _)) [nums, -getElem!_pos, -Int.natCast_add, -Int.natCast_mul, -Int.natCast_ediv]
        refine ih (j + 1) _ false (by omega) (by omega) ?_ ?_ ?_ ?_ ?_ hstep.symm hQ
        all_goals simp [h0, h3, h4, h5]
theorem l1038_6 {v : AV} {l : List Mo} (hv : ML tM v l) (hl : l.length < 2 ^ 20) {H0 : Heap} (hb : H0.base ≤ H0.next) : ∀ (m j : Nat) (σ : Sig) (H : Heap) (w : AV), l.length - j = m → j ≤ l.length → σ 0 = v → σ 3 = w → σ 4 = .int .i64 (j : Nat) → Acc tM H0 H w (((List.range j).filter (keepI l)).map fun i => l.getD i Mo.zero) → Ow H0 H →
    (∀ σ' H' w', σ' 3 = w' → Acc tM H0 H' w' (leastL l) → Ow H0 H' → Res (ai (callI tab) s k .nrm σ' H') Q) →
    Res (li (callI tab) L1038_6 (.inBlock 0 :: s) k σ H) Q := by
  intro m
  induction m with
  | zero =>
    intro j σ H w hm hj h0 h3 h4 ha ho hQ
    have hln := (hv.rd H).1
    have : j = l.length := by omega
    subst this
    obtain ⟨il, hil⟩ : ∃ x, x = Jtm.inLoop L1038_6 := ⟨_, rfl⟩; rw [li_eq' il hil]
    simp -implicitDefEqProofs (disch := first | omega | with_unfolding_all exact eqR (Eq.refl _)) [nums, -getElem!_pos, -Int.natCast_add, -Int.natCast_mul, -Int.natCast_ediv, L1038_6, h0, h3, h4, hln]
    subst hil
    try simp -implicitDefEqProofs (disch := first | omega | with_unfolding_all exact eqR (Eq.refl _)) [nums, -getElem!_pos, -Int.natCast_add, -Int.natCast_mul, -Int.natCast_ediv]
    refine hQ _ _ w ?_ ha ho
    simp [h3]
  | succ m ih =>
    intro j σ H w hm hj h0 h3 h4 ha ho hQ
    have hln := (hv.rd H).1
    have hjl : j < l.length := by omega
    obtain ⟨p, e1, e2⟩ := ml_at hv H hjl
    have hr : (List.range (j + 1)).filter (keepI l) = (List.range j).filter (keepI l) ++ if keepI l j then [j] else [] := by
      rw [List.range_succ, List.filter_append]
      congr 1
      by_cases h : keepI l j = true
      · rw [if_pos h, List.filter_cons_of_pos h]; rfl
      · rw [if_neg h, List.filter_cons_of_neg h]; rfl
    have hfl : ((List.range j).filter (keepI l)).length ≤ j := by have := List.length_filter_le (keepI l) (List.range j); simpa using this
    obtain ⟨il, hil⟩ : ∃ x, x = Jtm.inLoop L1038_6 := ⟨_, rfl⟩; rw [li_eq' il hil]
    simp -implicitDefEqProofs (disch := first | omega | with_unfolding_all exact eqR (Eq.refl _)) [nums, -getElem!_pos, -Int.natCast_add, -Int.natCast_mul, -Int.natCast_ediv, L1038_6, S1038_5, h0, h3, h4, hln]
    refine l1038_2 hv (by omega) hjl (x3 := w) _ 0 _ true rfl (by omega) ?_ ?_ ?_ ?_ ?_ (by simp) fun σ1 g0 g3 g4 g5 => ?_
    any_goals (first | (simp [h0, h3, h4]; done) | skip)
    cases hk : keepI l j with
    | true =>
      rw [hk] at g5
      rw [hk, if_pos rfl] at hr
      obtain ⟨w', H', e3, ha', ho'⟩ := ha.app (m := [l[j]]) (bs := 64) (ex := true) (n := 1) ho hb (by simp) rfl (by simp; omega)
      rw [show tM.e = 8 from rfl, ← row_one] at e3
      simp -implicitDefEqProofs (disch := first | omega | with_unfolding_all exact eqR (Eq.refl _)) [nums, -getElem!_pos, -Int.natCast_add, -Int.natCast_mul, -Int.natCast_ediv, S1038_3, g0, g3, g4, g5, e1, e2, bslR_mono, e3, S1038_4]
      subst hil
      try simp -implicitDefEqProofs (disch := first | omega | with_unfolding_all exact eqR (Eq.refl _)) [nums, -getElem!_pos, -Int.natCast_add, -Int.natCast_mul, -Int.natCast_ediv]
      refine ih (j + 1) _ H' w' (by omega) (by omega) ?_ ?_ ?_ (by rw [hr, List.map_append]; simp only [List.map_cons, List.map_nil, getD_at hjl]; exact ha') ho' hQ
      all_goals simp [g0]
    | false =>
      rw [hk] at g5
      rw [hk] at hr
      simp only [Bool.false_eq_true, if_false, List.append_nil] at hr
      simp -implicitDefEqProofs (disch := first | omega | with_unfolding_all exact eqR (Eq.refl _)) [nums, -getElem!_pos, -Int.natCast_add, -Int.natCast_mul, -Int.natCast_ediv, S1038_3, g0, g3, g4, g5, S1038_4]
      subst hil
      try simp -implicitDefEqProofs (disch := first | omega | with_unfolding_all exact eqR (Eq.refl _)) [nums, -getElem!_pos, -Int.natCast_add, -Int.natCast_mul, -Int.natCast_ediv]
      refine ih (j + 1) _ H w (by omega) (by omega) ?_ ?_ ?_ (by rw [hr]; exact ha) ho hQ
      all_goals simp [g0, g3]
theorem call_1038 {v : AV} {l : List Mo} {H : Heap} (hv : ML tM v l) (hl : l.length < 2 ^ 20) : Res (callI tab 38 [v] H) fun e H' => H' = H ∧ ML tM e (leastL l) := by
  have hf := hv.frz
  refine .hide fun Q hQ => .enter tab_1038 (by simp [AF1038]) (.inr (by simp [hf])) ?_
  simp -implicitDefEqProofs (disch := first | omega | with_unfolding_all exact eqR (Eq.refl _)) [nums, -getElem!_pos, -Int.natCast_add, -Int.natCast_mul, -Int.natCast_ediv, AF1038]
  refine l1038_6 hv hl (H0 := H.begin) (Nat.le_refl _) _ 0 _ _ (.vec 0 true []) rfl (by omega) ?_ ?_ ?_ .vec (.refl _) fun σ' H' w' q3 ha ho => ?_
  any_goals (first | (simp; done) | skip)
  obtain ⟨e, H2, hz, hml, ho2⟩ := ha.frz ho (Nat.le_refl _) (Nat.le_refl _) 5
  have hnn := hml.nonew H.next 3
  have hws : H2.ws = [] := ho2.ws
  have hz' : Mach.frz H.next 6 H' w' = some (e, H2) := hz
  simp -implicitDefEqProofs (disch := first | omega | with_unfolding_all exact eqR (Eq.refl _)) [nums, -getElem!_pos, -Int.natCast_add, -Int.natCast_mul, -Int.natCast_ediv, S1038_7, q3, hz', wrap_quiet hws hnn]
  exact .mk (hQ _ _ ⟨rfl, hml⟩)
theorem call_1038L {v : AV} {l : List Mo} {H0 H : Heap} (ha : Acc tM H0 H v l) (ho : Ow H0 H) (hb : H0.base ≤ H0.next) (hl : l.length < 2 ^ 20) : Res (callI tab 38 [v] H) fun e H' => Ow H0 H' ∧ ML tM e (leastL l) := by
  obtain ⟨w', H3, hz, hw', ho3⟩ := ha.frz ho hb (b := H.base) (by rw [ho.base]; exact hb) 5
  have hz2 := hw'.frz H3.base 5 H3
  obtain ⟨e9, H4, hc, hH4, h9'⟩ := call_1038 (H := H3) hw' hl
  subst hH4
  have hz' : frz H.base 6 H v = some (w', H4) := hz
  have hz2' : frz H4.base 6 H4 w' = some (w', H4) := hz2
  have hc9 := callI_frz (H := H) (H1 := H4) (args := [v]) (args' := [w']) tab_1038 rfl rfl (by simp [hz']) (by simp [hz2']) hc
  rw [hc9]
  exact .mk ⟨ho3, h9'⟩
end
end Go.Mach.Ytl
