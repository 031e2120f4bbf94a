/-
  monomial.All in the machine. By an AI agent.
-/
import Derived.Test.YtlbihaiejbpjoaaPa
set_option linter.unusedSimpArgs false
set_option linter.unusedVariables false
set_option maxRecDepth 100000
namespace Go.Mach.Ytl
open Go.Mach
namespace Ids
variable {I : Ids} {H0 H H1 H2 H3 : Heap}

theorem acc_back {v : AV} {L L' : List Mo} {H' : Heap} (a : Acc tM H0 H1 v L) (b : Acc tM H0 H3 v L') (hn : H'.next = H1.next) (ho : ∀ i, H0.next ≤ i → i < H1.next → H'.obj i = H3.obj i) : Acc tM H0 H' v L' := by
  cases b with
  | nil => exact .nil
  | vec => exact .vec
  | live id rel l n hnl hobj hid hidn hrel hne =>
    cases a with
    | live id2 rel2 l2 n2 hnl2 hobj2 hid2 hidn2 hrel2 hne2 => exact .live id rel _ _ hnl (by rw [ho id hid hidn2]; exact hobj) hid (by rw [hn]; exact hidn2) hrel hne
/-- The caller's heap behind a run of the recursion. -/
theorem wrapS {m m' : Mo} {L L' : List Mo} {n : Nat} (ok : I.Ok H0 n) (hb : H1.base ≤ H1.next) (s1 : I.S H0 H1 m L) (t : I.Tr H0 H1.begin H3) (s3 : I.S H0 H3 m' L') : ∃ H', wrapA H1 (.tup []) H3 = (.tup [], H') ∧ I.Tr H0 H1 H' ∧ I.S H0 H' m' L' := by
  obtain ⟨v1, o1, a1⟩ := s1.out
  obtain ⟨v3, o3, a3⟩ := s3.out
  have po1 : I.po < H1.next := Nat.lt_of_lt_of_le ok.o1 s1.next
  have pm1 : I.pm < H1.next := Nat.lt_of_lt_of_le ok.m1 s1.next
  have log : ∀ i, i < H1.next → i ∉ H3.ws → H3.obj i = H1.obj i := t.log
  have wsI : ∀ i ∈ H3.ws, H0.base ≤ i ∧ i < H1.next := fun i h => by
    rcases t.wsI i h with h | h
    · cases h
    · exact h
  have nx : H1.next ≤ H3.next := t.next
  have alt : (H3.obj I.po = H1.obj I.po ∧ ∀ i ∈ H3.ws, i = I.pm) ∨ (∃ v, H3.obj I.po = .cells [v] none ∧ New H1.next v ∧ I.po ∈ H3.ws) := by
    rcases t.alt with ⟨h1, h2⟩ | ⟨v, h1, h2, h3⟩
    · refine .inl ⟨h1, fun i hi => ?_⟩
      rcases h2 i hi with h | h
      · cases h
      · exact h
    · exact .inr ⟨v, h1, h2, h3 po1⟩
  have caseA : (H3.obj I.po = H1.obj I.po ∧ ∀ i ∈ H3.ws, i = I.pm) → ∀ H' : Heap, H'.next = H1.next → H'.base = H1.base → (∀ i, H'.obj i = if i = I.pm then H3.obj i else H1.obj i) → I.S H0 H' m' L' := by
    intro ⟨h1, h2⟩ H' hn hbs ho
    have hv : v1 = v3 := by
      rw [o3, o1] at h1
      simpa using h1.symm
    subst hv
    refine ⟨by rw [hn]; exact s1.next, by rw [hbs]; exact s1.bb, fun i h3 h4 h5 => by rw [ho, if_neg h4]; exact s1.old i h3 h4 h5, by rw [ho, if_pos rfl]; exact s3.mm, v1, by rw [ho, if_neg ok.om]; exact o1, acc_back a1 a3 hn fun i h3 h4 => ?_⟩
    have hne : i ≠ I.pm := by have := ok.m1; omega
    rw [ho, if_neg hne]
    exact (log i h4 fun h => hne (h2 i h)).symm
  unfold wrapA
  split
  · rename_i h0
    have hA : H3.obj I.po = H1.obj I.po ∧ ∀ i ∈ H3.ws, i = I.pm := by
      rcases alt with h | ⟨_, _, _, h⟩
      · exact h
      · rw [h0] at h; cases h
    refine ⟨H1, by simp [AV.noNew], .refl, caseA hA H1 rfl rfl fun i => ?_⟩
    split
    · rename_i hi; subst hi; exact (log _ pm1 (by rw [h0]; simp)).symm
    · rfl
  · rename_i ws h0
    have hnn : (AV.tup []).noNew H1.next 4 = true := rfl
    rw [hnn]
    by_cases hall : (H3.ws).all (fun i => (H3.obj i).noNew H1.next) = true
    · rw [hall]
      have hA : H3.obj I.po = H1.obj I.po ∧ ∀ i ∈ H3.ws, i = I.pm := by
        rcases alt with h | ⟨v, h1, ⟨id, off, len, lo, ex, e, h2, h3⟩, h4⟩
        · exact h
        · have := List.all_eq_true.1 hall _ h4
          rw [h1, h2] at this
          simp [AObj.noNew, AV.noNew] at this
          omega
      have hobj : ∀ i, (H3.ws.foldr (fun i o => upd o i ((H3.obj i).clean H1.next)) H1.obj) i = if i = I.pm then H3.obj i else H1.obj i := by
        intro i
        rw [foldr_upd]
        by_cases hi : i = I.pm
        · subst hi
          rw [if_pos rfl]
          by_cases hm : I.pm ∈ H3.ws
          · rw [if_pos hm, s3.mm]; rfl
          · rw [if_neg hm]; exact (log _ pm1 hm).symm
        · rw [if_neg hi, if_neg fun h => hi (hA.2 i h)]
      refine ⟨_, rfl, ?_, caseA hA _ rfl rfl hobj⟩
      refine ⟨Nat.le_refl _, rfl, fun i h => List.mem_append.2 (.inr h), fun i h1 h2 => ?_, fun i h => ?_, .inl ⟨?_, fun i h => ?_⟩⟩
      · refine (hobj i).trans ?_
        split
        · rename_i hi
          exact log i (by omega) fun h => h2 (List.mem_append.2 (.inl (List.mem_filter.2 ⟨h, by simpa using h1⟩)))
        · rfl
      · rcases List.mem_append.1 h with h | h
        · obtain ⟨h1, h2⟩ := List.mem_filter.1 h
          exact .inr ⟨(wsI i h1).1, by simpa using h2⟩
        · exact .inl h
      · refine (hobj _).trans ?_
        rw [if_neg ok.om]
      · rcases List.mem_append.1 h with h | h
        · exact .inr (hA.2 i (List.mem_filter.1 h).1)
        · exact .inl h
    · have hall' : (H3.ws).all (fun i => (H3.obj i).noNew H1.next) = false := by simpa using hall
      rw [hall']
      refine ⟨_, rfl, ⟨nx, rfl, fun i h => List.mem_append.2 (.inr h), fun i h1 h2 => ?_, fun i h => ?_, ?_⟩, ⟨Nat.le_trans s1.next nx, s1.bb, s3.old, s3.mm, v3, o3, a3.other (Nat.le_refl _) fun _ _ _ => rfl⟩⟩
      · exact log i (by omega) fun h => h2 (List.mem_append.2 (.inl (List.mem_filter.2 ⟨h, by simpa using h1⟩)))
      · rcases List.mem_append.1 h with h | h
        · obtain ⟨h1, h2⟩ := List.mem_filter.1 h
          exact .inr ⟨(wsI i h1).1, by simpa using h2⟩
        · exact .inl h
      · rcases alt with ⟨h1, h2⟩ | ⟨v, h1, h2, h3⟩
        · refine .inl ⟨h1, fun i h => ?_⟩
          rcases List.mem_append.1 h with h | h
          · exact .inr (h2 i (List.mem_filter.1 h).1)
          · exact .inl h
        · exact .inr ⟨v, h1, h2, fun h => List.mem_append.2 (.inl (List.mem_filter.2 ⟨h3, by simpa using h⟩))⟩
end Ids

theorem iaddr_arr {n e id off : Nat} {k : IntKind} {i : Nat} (h : i < n) : iaddrA (some n) e (.ptr id off) (.int k i) = some (.ptr id (off + i * e)) := by
  simp only [iaddrA]; rw [if_pos (by omega)]; simp
theorem storeI {H : Heap} {m : Mo} {rel : Option Nat} {id i : Nat} {x : Int} (h : i < 8) : stO H 1 id i (.cells m.cells rel) (some [.int .i64 x]) = some ((H.kill rel).set id (.cells (m.setI i x).cells none)) := by
  rw [stO_some, if_pos ⟨rfl, by show i + 1 ≤ 8; omega⟩, put_cons, put_nil, set_cells h]
theorem fillL_len : ∀ (k i left : Nat) (m : Mo), left ≤ 12 → (fillL k i left m).length ≤ 13 ^ k := by
  intro k
  induction k with
  | zero => intro i left m h; simp only [fillL]; split <;> simp
  | succ k ih =>
    intro i left m h
    cases k with
    | zero => simp [fillL]
    | succ k =>
      simp only [fillL]
      rw [List.length_flatMap]
      have : ∀ l : List Nat, (l.map fun e => (fillL (k + 1) (i + 1) (left - e) (m.setI i (e : Nat))).length).sum ≤ l.length * 13 ^ (k + 1) := by
        intro l
        induction l with
        | nil => simp
        | cons e l ih2 =>
          simp only [List.map_cons, List.sum_cons, List.length_cons, Nat.succ_mul]
          have := ih (i + 1) (left - e) (m.setI i (e : Nat)) (by omega)
          omega
      refine Nat.le_trans (this _) ?_
      rw [Nat.pow_succ 13 (k + 1), Nat.mul_comm (13 ^ (k + 1)) 13]
      apply Nat.mul_le_mul_right
      simp; omega

section
variable {I : Ids} {H0 : Heap} {n : Nat} {s : List Jtm} {k : KF} {Q : AV → Heap → Prop}
open Ids
/-- The recursion does its work for k variables. -/
def FillOK (I : Ids) (H0 : Heap) (n k : Nat) : Prop := ∀ (i left : Nat) (H : Heap) (m : Mo) (L : List Mo), i + k = n → left ≤ 12 → I.S H0 H m L → H.base ≤ H.next → L.length + 13 ^ k < 2 ^ 30 →
  Res (callI tab 86 [.int .i64 i, .int .i64 left, .ptr I.pn 0, .ptr I.pm 0, .ptr I.pf 0, .ptr I.po 0] H) fun e H' => e = .tup [] ∧ H'.base ≤ H'.next ∧ I.Tr H0 H H' ∧ ∃ m', I.S H0 H' m' (L ++ fillL k i left m) ∧ Alike i k m m'

theorem l86_1 (ok : I.Ok H0 n) (hn8 : n ≤ 8) {kk i left : Nat} (ih : FillOK I H0 n (kk + 1)) (hik : i + (kk + 2) = n) (hleft : left ≤ 12) : ∀ (j : Nat) (σ : Sig) (H : Heap) (m : Mo) (L : List Mo), j ≤ left + 1 → σ 0 = .int .i64 (i : Nat) → σ 1 = .int .i64 (left : Nat) → σ 3 = .ptr I.pm 0 → σ 4 = .ptr I.pf 0 → σ 8 = .int .i64 (pr j) →
    I.S H0 H m L → H.base ≤ H.next → L.length + j * 13 ^ (kk + 1) < 2 ^ 30 →
    (∀ σ' H' m', H'.base ≤ H'.next → I.Tr H0 H H' → I.S H0 H' m' (L ++ ((List.range j).reverse).flatMap fun e => fillL (kk + 1) (i + 1) (left - e) (m.setI i (e : Nat))) → Alike i (kk + 2) m m' → Res (ai (callI tab) s k .nrm σ' H') Q) →
    Res (li (callI tab) L86_1 (.inBlock 1 :: s) k σ H) Q := by
  intro j
  induction j with
  | zero =>
    intro σ H m L hj h0 h1 h3 h4 h8 hS hb hl hQ
    rw [pr_zero] at h8
    obtain ⟨il, hil⟩ : ∃ x, x = Jtm.inLoop L86_1 := ⟨_, rfl⟩; rw [li_eq' il hil]
    simp -implicitDefEqProofs (disch := first | omega | with_unfolding_all exact eqR (Eq.refl _)) [nums, -getElem!_pos, -Int.natCast_add, -Int.natCast_mul, -Int.natCast_ediv, L86_1, S86_0, h0, h1, h3, h4, h8]
    subst hil
    try simp -implicitDefEqProofs (disch := first | omega | with_unfolding_all exact eqR (Eq.refl _)) [nums, -getElem!_pos, -Int.natCast_add, -Int.natCast_mul, -Int.natCast_ediv]
    exact hQ _ H m hb .refl (by simpa using hS) fun _ _ _ => rfl
  | succ j jh =>
    intro σ H m L hj h0 h1 h3 h4 h8 hS hb hl hQ
    rw [pr_succ] at h8
    have hmm := hS.mm
    have hS1 : I.S H0 (H.set I.pm (.cells (m.setI i (j : Nat)).cells none)) (m.setI i (j : Nat)) L := hS.store ok
    have hT1 : I.Tr H0 H (H.set I.pm (.cells (m.setI i (j : Nat)).cells none)) := set_tr ok.b0 ok.om
    have hpf : H.obj I.pf = .cells [I.fnv] none := by rw [hS.old _ ok.f1 ok.fm ok.fo]; exact ok.hf
    have hfm := ok.fm
    unfold Ids.fnv at hpf
    have hl' : L.length + (13 ^ (kk + 1) + j * 13 ^ (kk + 1)) < 2 ^ 30 := by
      have : (j + 1) * 13 ^ (kk + 1) = j * 13 ^ (kk + 1) + 13 ^ (kk + 1) := Nat.succ_mul _ _
      omega
    obtain ⟨il, hil⟩ : ∃ x, x = Jtm.inLoop L86_1 := ⟨_, rfl⟩; rw [li_eq' il hil]
    simp -implicitDefEqProofs (disch := first | omega | with_unfolding_all exact eqR (Eq.refl _)) [nums, -getElem!_pos, -Int.natCast_add, -Int.natCast_mul, -Int.natCast_ediv, L86_1, S86_0, h0, h1, h3, h4, h8, iaddr_arr, storeI, hmm, hpf, load1, hfm]
    refine .call (ih (i + 1) (left - j) _ _ L (by omega) (by omega) hS1 hb (by omega)) fun e H2 ⟨he, hb2, hT2, m2, hS2, hA2⟩ => ?_
    subst he
    have hlen := fillL_len (kk + 1) (i + 1) (left - j) (m.setI i (j : Nat)) (by omega)
    simp -implicitDefEqProofs (disch := first | omega | with_unfolding_all exact eqR (Eq.refl _)) [nums, -getElem!_pos, -Int.natCast_add, -Int.natCast_mul, -Int.natCast_ediv, wrap_pr, h0, h1, h3, h4, h8]
    subst hil
    try simp -implicitDefEqProofs (disch := first | omega | with_unfolding_all exact eqR (Eq.refl _)) [nums, -getElem!_pos, -Int.natCast_add, -Int.natCast_mul, -Int.natCast_ediv]
    have hAm : Alike i (kk + 2) m m2 := fun q hq hc => by
      rw [← hA2 q hq (by omega), get_set (by omega), if_neg (by omega)]
    refine jh _ H2 m2 (L ++ fillL (kk + 1) (i + 1) (left - j) (m.setI i (j : Nat))) (by omega) ?_ ?_ ?_ ?_ ?_ hS2 hb2 (by rw [List.length_append]; omega) fun σ' H' m' hb' hT' hS' hA' => hQ σ' H' m' hb' (hT1.trans (hT2.trans hT')) ?_ fun q hq hc => (hAm q hq hc).trans (hA' q hq hc)
    any_goals (first | (simp [h0, h1, h3, h4]; done) | skip)
    have hfl : ((List.range j).reverse).flatMap (fun e => fillL (kk + 1) (i + 1) (left - e) (m2.setI i (e : Nat))) = ((List.range j).reverse).flatMap fun e => fillL (kk + 1) (i + 1) (left - e) (m.setI i (e : Nat)) := by
      congr 1
      funext e
      refine fillL_alike _ _ _ _ _ (by omega) fun q hq hc => ?_
      rw [get_set (by omega), get_set (by omega)]
      by_cases hqi : q = i
      · rw [if_pos hqi, if_pos hqi]
      · rw [if_neg hqi, if_neg hqi]; exact (hAm q hq (by omega)).symm
    rw [hfl] at hS'
    rw [List.range_succ, List.reverse_append, List.reverse_singleton, List.singleton_append, List.flatMap_cons, ← List.append_assoc]
    exact hS'

theorem fill_ok (ok : I.Ok H0 n) (hn8 : n ≤ 8) : ∀ k, FillOK I H0 n k := by
  intro k
  induction k with
  | zero =>
    intro i left H m L hik hleft hS hb hl
    refine .hide fun Q hQ => .enter tab_86 (by simp [AF86]) (.inr (by simp)) ?_
    have hS0 : I.S H0 H.begin m L := ⟨hS.next, by show H0.base ≤ H.next; have := ok.bn; have := hS.next; omega, hS.old, hS.mm, hS.out.imp fun v h => ⟨h.1, h.2.other (Nat.le_refl _) fun _ _ _ => rfl⟩⟩
    have hpn : H.obj I.pn = .cells [.int .i64 n] none := by rw [hS.old _ ok.n1 ok.nm ok.no]; exact ok.hn
    have hin : i = n := by omega
    subst hin
    by_cases h0 : left = 0
    · subst h0
      obtain ⟨v, hv, ha⟩ := hS0.out
      obtain ⟨v', H', e, hpo, hS1, hT1, hb1, hfl⟩ := hS0.push ok (Nat.le_refl _) (by omega) hv ha
      have hv' : H.obj I.po = .cells [v] none := hv
      have hmm : H.obj I.pm = .cells m.cells none := hS.mm
      simp -implicitDefEqProofs (disch := first | omega | with_unfolding_all exact eqR (Eq.refl _)) [nums, -getElem!_pos, -Int.natCast_add, -Int.natCast_mul, -Int.natCast_ediv, AF86, hpn, load1, hv', hmm, bslR_mono, e, hpo, hfl, store1]
      obtain ⟨H2, ew, hT2, hS2⟩ := wrapS ok hb hS hT1 hS1
      rw [ew]
      have hbb := hT2.base
      have hnn := hT2.next
      exact .mk (hQ _ _ ⟨rfl, by omega, hT2, m, by simpa [fillL] using hS2, fun _ _ _ => rfl⟩)
    · simp -implicitDefEqProofs (disch := first | omega | with_unfolding_all exact eqR (Eq.refl _)) [nums, -getElem!_pos, -Int.natCast_add, -Int.natCast_mul, -Int.natCast_ediv, AF86, hpn, load1]
      obtain ⟨H2, ew, hT2, hS2⟩ := wrapS ok hb hS .refl hS0
      rw [wrap_begin rfl] at ew
      simp only [Prod.mk.injEq, true_and] at ew
      subst ew
      exact .mk (hQ _ _ ⟨rfl, hb, hT2, m, by simpa [fillL, h0] using hS2, fun _ _ _ => rfl⟩)
  | succ k ih =>
    intro i left H m L hik hleft hS hb hl
    refine .hide fun Q hQ => .enter tab_86 (by simp [AF86]) (.inr (by simp)) ?_
    have hS0 : I.S H0 H.begin m L := ⟨hS.next, by show H0.base ≤ H.next; have := ok.bn; have := hS.next; omega, hS.old, hS.mm, hS.out.imp fun v h => ⟨h.1, h.2.other (Nat.le_refl _) fun _ _ _ => rfl⟩⟩
    have hpn : H.obj I.pn = .cells [.int .i64 n] none := by rw [hS.old _ ok.n1 ok.nm ok.no]; exact ok.hn
    have hmm : H.obj I.pm = .cells m.cells none := hS.mm
    have hom := ok.om
    cases k with
    | zero =>
      have hS1 : I.S H0 (H.begin.set I.pm (.cells (m.setI i (left : Nat)).cells none)) (m.setI i (left : Nat)) L := hS0.store ok
      have hT1 : I.Tr H0 H.begin (H.begin.set I.pm (.cells (m.setI i (left : Nat)).cells none)) := set_tr ok.b0 ok.om
      obtain ⟨v, hv, ha⟩ := hS1.out
      obtain ⟨v', H', e, hpo, hS2, hT2, hb2, hfl⟩ := hS1.push ok (Nat.le_refl _) (by omega) hv ha
      have hv' : H.obj I.po = .cells [v] none := by
        simp only [Heap.set, upd] at hv
        rw [if_neg hom] at hv; exact hv
      simp -implicitDefEqProofs (disch := first | omega | with_unfolding_all exact eqR (Eq.refl _)) [nums, -getElem!_pos, -Int.natCast_add, -Int.natCast_mul, -Int.natCast_ediv, AF86, hpn, load1, hmm, iaddr_arr, storeI, hv', hom, bslR_mono, e, hpo, hfl, store1]
      obtain ⟨H3, ew, hT3, hS3⟩ := wrapS ok hb hS (hT1.trans hT2) hS2
      rw [ew]
      have hbb := hT3.base
      have hnn := hT3.next
      refine .mk (hQ _ _ ⟨rfl, by omega, hT3, _, by simpa [fillL] using hS3, fun q hq hc => ?_⟩)
      rw [get_set (by omega), if_neg (by omega)]
    | succ k =>
      simp -implicitDefEqProofs (disch := first | omega | with_unfolding_all exact eqR (Eq.refl _)) [nums, -getElem!_pos, -Int.natCast_add, -Int.natCast_mul, -Int.natCast_ediv, AF86, hpn, load1, S86_2]
      refine l86_1 (I := I) (H0 := H0) (n := n) (kk := k) (i := i) (left := left) ok hn8 ih (by omega) hleft (left + 1) _ H.begin m L (Nat.le_refl _) ?_ ?_ ?_ ?_ ?_ hS0 (Nat.le_refl _) ?_ fun σ' H' m' hb' hT' hS' hA' => ?_
      any_goals (first | (simp [pr_succ]; done) | skip)
      · have : 13 ^ (k + 1 + 1) = 13 ^ (k + 1) * 13 := Nat.pow_succ 13 (k + 1)
        have h2 : (left + 1) * 13 ^ (k + 1) ≤ 13 * 13 ^ (k + 1) := Nat.mul_le_mul_right _ (by omega)
        omega
      · simp -implicitDefEqProofs (disch := first | omega | with_unfolding_all exact eqR (Eq.refl _)) [nums, -getElem!_pos, -Int.natCast_add, -Int.natCast_mul, -Int.natCast_ediv]
        obtain ⟨H3, ew, hT3, hS3⟩ := wrapS ok hb hS hT' hS'
        rw [ew]
        have hbb := hT3.base
        have hnn := hT3.next
        exact .mk (hQ _ _ ⟨rfl, by omega, hT3, m', hS3, hA'⟩)
end
end Go.Mach.Ytl
