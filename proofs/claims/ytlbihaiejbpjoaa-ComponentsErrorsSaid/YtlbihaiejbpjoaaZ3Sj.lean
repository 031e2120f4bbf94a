/-
  Pruned copy of the text Sj. By an AI agent.
-/
import Derived.Test.YtlbihaiejbpjoaaZ3Sf
set_option linter.unusedSimpArgs false
set_option linter.unusedVariables false
set_option maxRecDepth 100000
namespace Go.Mach.Ytl
open Go.Mach
section
variable {s : List Jtm} {k : KF} {Q : AV → Heap → Prop}
attribute [local simp] guardI_u
theorem call_19r {v : AV} {L : List Mo} {n : Int} {H : Heap} (hv : ML tM v L) (hn : n < 0 ∨ 8 < n) : Res (callI tab 19 [v, .int .i64 n] H) fun e H' => H' = H ∧ ∃ w P, e = .tup [w, .int .i64 1] ∧ ML tM w P ∧ P = [] := by
  have hf := hv.frz
  refine .hide fun Q hQ => .enter tab_19 (by simp [AF19]) (.inr (by simp [hf])) ?_
  have hq : (AV.tup [.nils, .int .i64 1]).noNew H.next 4 = true := rfl
  by_cases h0 : n < 0
  · simp -implicitDefEqProofs (disch := first | omega | with_unfolding_all exact eqR (Eq.refl _)) [nums, -getElem!_pos, -Int.natCast_add, -Int.natCast_mul, -Int.natCast_ediv, AF19, load1, h0]
    exact .mk (hQ _ _ ⟨rfl, .nils, [], rfl, .inl ⟨rfl, rfl⟩, rfl⟩)
  · have h8 : 8 < n := by omega
    simp -implicitDefEqProofs (disch := first | omega | with_unfolding_all exact eqR (Eq.refl _)) [nums, -getElem!_pos, -Int.natCast_add, -Int.natCast_mul, -Int.natCast_ediv, AF19, load1, h0, h8]
    exact .mk (hQ _ _ ⟨rfl, .nils, [], rfl, .inl ⟨rfl, rfl⟩, rfl⟩)
theorem call_19v {v : AV} {L : List Mo} {n : Nat} {H : Heap} (hv : ML tM v L) (hn : n ≤ 8) (hl : L.length < 2 ^ 40) (hany : (L.any fun m => !decide m.valid || decide (n < len8 (supN m))) = true) : Res (callI tab 19 [v, .int .i64 n] H) fun e H' => H' = H ∧ ∃ w P, e = .tup [w, .int .i64 1] ∧ ML tM w P ∧ P = [] := by
  have hf := hv.frz
  have hn8 : ¬ (8 : Int) < (n : Nat) := by omega
  have c64 := call_64 (b := H.next) (call_65 (n := n)) (H := H.begin.new (.cells [.int .i64 (n : Nat)] none)) (hv.rd _) (by show H.next < H.next + 1; omega) (by simp) hl
  rw [hany] at c64
  refine .hide fun Q hQ => .enter tab_19 (by simp [AF19]) (.inr (by simp [hf])) ?_
  simp -implicitDefEqProofs (disch := first | omega | with_unfolding_all exact eqR (Eq.refl _)) [nums, -getElem!_pos, -Int.natCast_add, -Int.natCast_mul, -Int.natCast_ediv, AF19, load1, hn8, c64]
  exact .mk (hQ _ _ ⟨rfl, .nils, [], rfl, .inl ⟨rfl, rfl⟩, rfl⟩)
theorem call_19l {v : AV} {L : List Mo} {n : Nat} {H : Heap} (hv : ML tM v L) (hn : n ≤ 8) (hl : L.length < 2 ^ 40) (hany : (L.any fun m => !decide m.valid || decide (n < len8 (supN m))) = false) (hL : 8 < L.length) : Res (callI tab 19 [v, .int .i64 n] H) fun e H' => H' = H ∧ ∃ w P, e = .tup [w, .int .i64 2] ∧ ML tM w P ∧ P = [] := by
  have hf := hv.frz
  have hln := fun H => (hv.rd H).1
  have hn8 : ¬ (8 : Int) < (n : Nat) := by omega
  have hL8 : (8 : Int) < (L.length : Nat) := by omega
  have c64 := call_64 (b := H.next) (call_65 (n := n)) (H := H.begin.new (.cells [.int .i64 (n : Nat)] none)) (hv.rd _) (by show H.next < H.next + 1; omega) (by simp) hl
  rw [hany] at c64
  refine .hide fun Q hQ => .enter tab_19 (by simp [AF19]) (.inr (by simp [hf])) ?_
  simp -implicitDefEqProofs (disch := first | omega | with_unfolding_all exact eqR (Eq.refl _)) [nums, -getElem!_pos, -Int.natCast_add, -Int.natCast_mul, -Int.natCast_ediv, AF19, load1, hn8, c64, S19_13, hln, hL8]
  exact .mk (hQ _ _ ⟨rfl, .nils, [], rfl, .inl ⟨rfl, rfl⟩, rfl⟩)
theorem exps_two {m : Mo} {q0 : Nat} (hm : ∀ q, q ≠ q0 → m.get q = 0) {x : Mo} (h : ∀ q, x.get q = 0 ∨ x.get q = m.get q) : x = Mo.zero ∨ x = m := by
  by_cases hx : x.get q0 = 0
  · left
    refine Mo.ext' fun q _ => ?_
    rw [zero_get]
    rcases h q with e | e
    · exact e
    · by_cases hq : q = q0
      · subst hq; exact hx
      · rw [e, hm q hq]
  · right
    refine Mo.ext' fun q _ => ?_
    by_cases hq : q = q0
    · subst hq
      rcases h q with e | e
      · exact absurd e hx
      · exact e
    · rw [hm q hq]
      rcases h q with e | e
      · exact e
      · rw [e, hm q hq]
theorem two_len {m : Mo} {r : List Mo} (hn : r.Nodup) (h : ∀ x ∈ r, x = Mo.zero ∨ x = m) : r.length ≤ 1000 := by
  have := nodup_len (l := [Mo.zero, m]) hn fun x hx => by rcases h x hx with e | e <;> simp [e]
  simp at this; omega
theorem good_two {m : Mo} {q0 : Nat} (hm : ∀ q, q ≠ q0 → m.get q = 0) {r : List Mo} (h : Good [m] r) : ∀ x ∈ r, x = Mo.zero ∨ x = m := fun x hx => exps_two hm fun q => by
  rcases h.exps x hx q with e | ⟨a, ha, _, e⟩
  · exact .inl e
  · rw [List.mem_singleton] at ha; subst ha; exact .inr e
theorem mg_two {m : Mo} {q0 : Nat} (hm : ∀ q, q ≠ q0 → m.get q = 0) {S r : List Mo} (hS : ∀ a ∈ S, a = Mo.zero ∨ a = m) (h : Mg S r) : r.length ≤ 1000 := two_len (m := m) h.min.desc.nodup fun x hx => exps_two hm fun q => by
  rcases h.exps x hx q with e | ⟨a, ha, h0, e⟩
  · exact .inl e
  · rcases hS a ha with e2 | e2
    · rw [e2, zero_get] at h0; omega
    · rw [e2] at e; exact .inr e
def Z9 : Array Mo := (List.replicate 9 Mo.zero).toArray
theorem heapA_mks9' {σ : Sig} {H : Heap} : heapA (ev σ) H (.mks 8 Mo.zero.cells 64 (ci 9) (ci 9)) = some (.sl H.next 0 9 9 true 8, H.new (.cells (tM.arr Z9) none)) := by
  have h : ev σ (ci 9) = .int .i64 9 := rfl
  simp only [heapA, h]
  rw [if_pos (by decide)]; rfl
attribute [local simp ↓ high] heapA_mks9'
theorem nine_any : (Z9.toList.any fun m => !decide m.valid || decide (0 < len8 (supN m))) = false := by
  unfold Z9
  rw [List.any_eq_false]
  intro m hm
  have : m = Mo.zero := List.eq_of_mem_replicate hm
  subst this
  decide +kernel
theorem call_22n {H : Heap} (hb : H.base ≤ H.next) : Res (callI tab 22 [.sl H.next 0 9 9 true 8, .int .i64 0] (H.new (.cells (tM.arr Z9) none))) fun e H' => (H.ws = [] → H'.ws = []) ∧ ∃ w, e = .tup [w, .int .i64 2] := by
  have hd : (H.new (.cells (tM.arr Z9) none)).obj H.next = .cells (tM.arr Z9) none := by simp [Heap.new, upd]
  have hz := frz_live (t := tM) (b := H.base) (m := 5) (id := H.next) (k := 9) (lo := 9) (ex := true) hd hb (by decide) (by omega)
  have hz' : Mach.frz H.base 6 (H.new (.cells (tM.arr Z9) none)) (.sl H.next 0 9 9 true 8) = some (.vec 9 true (tM.row Z9.toList), (H.new (.cells (tM.arr Z9) none)).set H.next (.frz (tM.arr Z9))) := hz
  have hml : ML tM (.vec 9 true (tM.row Z9.toList)) Z9.toList := .inr ⟨true, rfl⟩
  have hz2 := hml.frz ((H.new (.cells (tM.arr Z9) none)).set H.next (.frz (tM.arr Z9))).base 5 ((H.new (.cells (tM.arr Z9) none)).set H.next (.frz (tM.arr Z9)))
  obtain ⟨e, H2, hc, hH, P, S, w, parts, hP, he, _⟩ := call_22 (n := 0) (c := 2) (X := fun P => P = []) (H := (H.new (.cells (tM.arr Z9) none)).set H.next (.frz (tM.arr Z9))) hml
    (fun H => call_19l (n := 0) hml (by omega) (by decide) nine_any (by decide)) (fun P h => by rw [h]; simp) (fun P h S r hS hm => by
      have hS0 : S = [] := List.eq_nil_iff_forall_not_mem.2 fun a ha => by have := hS a ha; rw [h] at this; cases this
      have hr := hm.min.desc.nodup
      have : ∀ x ∈ r, x = Mo.zero ∨ x = Mo.zero := fun x hx => .inl (Mo.ext' fun q _ => by
        rw [zero_get]
        rcases hm.exps x hx q with e | ⟨a, ha, _⟩
        · exact e
        · rw [hS0] at ha; cases ha)
      exact two_len hr this)
  have hc2 := callI_frz (H := H.new (.cells (tM.arr Z9) none)) (H1 := (H.new (.cells (tM.arr Z9) none)).set H.next (.frz (tM.arr Z9))) (args := [.sl H.next 0 9 9 true 8, .int .i64 0]) (args' := [.vec 9 true (tM.row Z9.toList), .int .i64 0]) tab_22 rfl rfl
    (by have hzb : Mach.frz (H.new (.cells (tM.arr Z9) none)).base 6 (H.new (.cells (tM.arr Z9) none)) (.sl H.next 0 9 9 true 8) = some (.vec 9 true (tM.row Z9.toList), (H.new (.cells (tM.arr Z9) none)).set H.next (.frz (tM.arr Z9))) := hz'
        simp only [frzL, hzb]; rfl) (by simp only [frzL, hz2]; rfl) hc
  rw [hc2]
  refine .mk ⟨fun hw => ?_, w, he⟩
  rw [hH]
  simp only [Heap.set]
  rw [if_neg (by show ¬ H.next < H.base; omega)]
  exact hw
theorem s3_0 {m : Mo} {b8 : Nat} {nI c : Int} {X : List Mo → Prop} (h19 : ∀ H, Res (callI tab 19 [.vec 1 true m.cells, .int .i64 nI] H) fun e H' => H' = H ∧ ∃ w P, e = .tup [w, .int .i64 c] ∧ ML tM w P ∧ X P) (hX : ∀ P, X P → P.length ≤ 1000) (hB : ∀ P, X P → ∀ S' r, (∀ a ∈ S', a ∈ P) → Mg S' r → r.length ≤ 1000)
    (hc : c = 0 ∨ (c = 1 ∧ ∀ P, X P → P = [])) {σ : Sig} {H : Heap} (h0 : σ 0 = .int .i64 nI) (h7 : σ 7 = .bool true) (h8 : σ 8 = .ptr b8 0) (h9 : σ 9 = .int .i64 c) (o8 : H.obj b8 = .cells m.cells none) (hws : H.ws = []) (hb : H.base ≤ H.next) :
    Res (gi (callI tab) S3_0 [] (fink [.tmp 6] true Heap.empty) σ H) fun e _ => e = .bool true := by
  have hml1 : ML tM (.vec 1 true m.cells) [m] := .inr ⟨true, by rw [row_one]; rfl⟩
  refine .hide fun Q hQ => ?_
  simp -implicitDefEqProofs (disch := first | omega | with_unfolding_all exact eqR (Eq.refl _)) [nums, -getElem!_pos, -Int.natCast_add, -Int.natCast_mul, -Int.natCast_ediv, S3_0, h0, h7, h8, h9, o8, ldM, bslR_mono]
  refine .call (h19 _) fun e1 H1 ⟨hH, w1, P1, he, hm1, hx1⟩ => ?_
  subst hH he
  have n1 : c = 1 → P1.length = 0 := fun h => by
    rcases hc with e | ⟨_, e⟩
    · omega
    · rw [e P1 hx1]; rfl
  have l1 := (hm1.rd H1).1
  simp -implicitDefEqProofs (disch := first | omega | with_unfolding_all exact eqR (Eq.refl _)) [nums, -getElem!_pos, -Int.natCast_add, -Int.natCast_mul, -Int.natCast_ediv, h0]
  refine .call (call_20 hml1 h19 hX) fun e2 H2 ⟨hH, P2, S2, w2, hx2, he, hm2, hs2⟩ => ?_
  subst hH he
  have n2 : c = 1 → S2.length = 0 := fun h => by
    rcases hc with e | ⟨_, e⟩
    · omega
    · have : S2 = [] := List.eq_nil_iff_forall_not_mem.2 fun s hs => by
        obtain ⟨a, ha, _⟩ := (hs2.mem s).1 hs
        rw [e P2 hx2] at ha; cases ha
      rw [this]; rfl
  have l2 := (hm2.rd H2).1
  simp -implicitDefEqProofs (disch := first | omega | with_unfolding_all exact eqR (Eq.refl _)) [nums, -getElem!_pos, -Int.natCast_add, -Int.natCast_mul, -Int.natCast_ediv, h0]
  refine .call (call_21 hml1 h19 hX) fun e3 H3 ⟨hH, P3, S3, w3, hx3, he, hm3, hs3⟩ => ?_
  subst hH he
  have n3 : c = 1 → (S3.filter (embB S3)).length = 0 := fun h => by
    rcases hc with e | ⟨_, e⟩
    · omega
    · have : S3 = [] := List.eq_nil_iff_forall_not_mem.2 fun s hs => by
        obtain ⟨a, ha, _⟩ := (hs3.mem s).1 hs
        rw [e P3 hx3] at ha; cases ha
      rw [this]; rfl
  have l3 := (hm3.rd H3).1
  simp -implicitDefEqProofs (disch := first | omega | with_unfolding_all exact eqR (Eq.refl _)) [nums, -getElem!_pos, -Int.natCast_add, -Int.natCast_mul, -Int.natCast_ediv, h0]
  refine .call (call_22 hml1 h19 hX hB) fun e4 H4 ⟨hH, P4, S4, w4, parts, hx4, he, hm4, hs4, hmap, _⟩ => ?_
  subst hH he
  have n4 : c = 1 → parts.length = 0 := fun h => by
    rcases hc with e | ⟨_, e⟩
    · omega
    · have : S4 = [] := List.eq_nil_iff_forall_not_mem.2 fun s hs => by
        obtain ⟨a, ha, _⟩ := (hs4.mem s).1 hs
        rw [e P4 hx4] at ha; cases ha
      rw [this] at hmap
      rw [List.map_eq_nil_iff.1 hmap]; rfl
  have l4 := fun H => (hm4.rd H).1
  have l1' := fun H => (hm1.rd H).1
  have l2' := fun H => (hm2.rd H).1
  have l3' := fun H => (hm3.rd H).1
  simp -implicitDefEqProofs (disch := first | omega | with_unfolding_all exact eqR (Eq.refl _)) [nums, -getElem!_pos, -Int.natCast_add, -Int.natCast_mul, -Int.natCast_ediv, h0]
  refine .call (call_22n hb) fun e5 H5 ⟨hw5, w5, he⟩ => ?_
  subst he
  have hws5 := hw5 hws
  have hq : (AV.bool true).noNew Heap.empty.next 4 = true := rfl
  rcases hc with e | ⟨e, _⟩
  · subst e
    simp -implicitDefEqProofs (disch := first | omega | with_unfolding_all exact eqR (Eq.refl _)) [nums, -getElem!_pos, -Int.natCast_add, -Int.natCast_mul, -Int.natCast_ediv, h0, h7, h9, wrap_quiet hws5 hq]
    exact .mk (hQ _ _ rfl)
  · subst e
    rw [n1 rfl] at l1'
    rw [n2 rfl] at l2'
    rw [n3 rfl] at l3'
    rw [n4 rfl] at l4
    simp -implicitDefEqProofs (disch := first | omega | with_unfolding_all exact eqR (Eq.refl _)) [nums, -getElem!_pos, -Int.natCast_add, -Int.natCast_mul, -Int.natCast_ediv, h0, h7, h9, l1', l2', l3', l4, wrap_quiet hws5 hq]
    exact .mk (hQ _ _ rfl)
theorem law3 {n e : Int} {i : Nat} (hn : -9223372036854775808 ≤ n ∧ n ≤ 9223372036854775807) (he : -9223372036854775808 ≤ e ∧ e ≤ 9223372036854775807) (hi : i < 256) : Res (callI tab 3 [.int .i64 n, .int .u8 i, .int .i64 e] Heap.empty) fun e _ => e = .bool true := by
  refine .hide fun Q hQ => .enter tab_3 (by simp [AF3]) (.inr (by simp)) ?_
  have hs : callI tab 18 [] Heap.empty.begin = some (.bool true, Heap.empty.begin) := callI_of (san21_0 _)
  have hf0 : fillA Mo.zero.cells [] = some Mo.zero.cells := rfl
  have hag : AV.agg Mo.zero.cells = mono Mo.zero := rfl
  obtain ⟨j, hj⟩ : ∃ j, j = i % 8 := ⟨_, rfl⟩
  have hj8 : j < 8 := by omega
  have hrem : ((i : Nat) : Int).tmod 8 = ((j : Nat) : Int) := by rw [hj]; rfl
  have hwj : IntKind.i64.wrap ((j : Nat) : Int) = (j : Nat) := wrap_nat (by omega)
  have hm0 : ∀ q, q ≠ j → (Mo.zero.setI j e).get q = 0 := fun q hq => by rw [get_set hj8, if_neg hq, zero_get]
  have hme : (Mo.zero.setI j e).get j = e := by rw [get_set hj8, if_pos rfl]
  have hml1 : ML tM (.vec 1 true (Mo.zero.setI j e).cells) [Mo.zero.setI j e] := .inr ⟨true, by rw [row_one]; rfl⟩
  obtain ⟨m, hmd⟩ : ∃ m, m = Mo.zero.setI j e := ⟨_, rfl⟩
  rw [← hmd] at hm0 hme hml1
  have bad : ∀ {P : List Mo}, P = [] → ∀ S' r, (∀ a ∈ S', a ∈ P) → Mg S' r → r.length ≤ 1000 := fun {P} h S r hS hm => mg_two hm0 (fun a ha => by have := hS a ha; rw [h] at this; cases this) hm
  have run : ∀ {c : Int} {σ : Sig} {H : Heap}, (c = 1 ∧ (n < 0 ∨ 8 < n ∨ e < 0 ∨ 65535 < e ∨ (0 < e ∧ n ≤ j))) ∨ (c = 0 ∧ ¬ (n < 0 ∨ 8 < n ∨ e < 0 ∨ 65535 < e ∨ (0 < e ∧ n ≤ j))) → σ 0 = .int .i64 n → σ 7 = .bool true → σ 8 = .ptr 0 0 → σ 9 = .int .i64 c → H.obj 0 = .cells m.cells none → H.ws = [] → H.base ≤ H.next → Res (gi (callI tab) S3_0 [] (fink [.tmp 6] true Heap.empty) σ H) Q := by
    intro c σ H hc h0 h7 h8 h9 o8 hws hb
    have fin : ∀ {v : AV} {H' : Heap}, v = .bool true → Q v H' := fun h => hQ _ _ h
    rcases hc with ⟨hc, hbad⟩ | ⟨hc, hgood⟩
    · subst hc
      have go : (∀ H, Res (callI tab 19 [.vec 1 true m.cells, .int .i64 n] H) fun e H' => H' = H ∧ ∃ w P, e = .tup [w, .int .i64 1] ∧ ML tM w P ∧ P = []) → Res (gi (callI tab) S3_0 [] (fink [.tmp 6] true Heap.empty) σ H) Q := fun h19 =>
        (s3_0 (X := fun P => P = []) h19 (fun P h => by rw [h]; simp) (fun P h => bad h) (.inr ⟨rfl, fun _ h => h⟩) h0 h7 h8 h9 o8 hws hb).mono fun v H' h => fin h
      by_cases h1 : n < 0 ∨ 8 < n
      · exact go fun H => call_19r hml1 h1
      · obtain ⟨nn, rfl⟩ : ∃ k : Nat, n = (k : Int) := ⟨n.toNat, by omega⟩
        refine go fun H => call_19v hml1 (by omega) (by simp) ?_
        rw [List.any_cons, List.any_nil, Bool.or_false, Bool.or_eq_true, Bool.not_eq_true', decide_eq_false_iff_not, decide_eq_true_eq]
        by_cases hv : m.valid
        · right
          apply Classical.byContradiction
          intro h2
          have h3 := (len_sup (m := m) (n := nn) (by omega)).1 (by omega) j hj8
          have h4 := valid_get.1 hv j hj8
          rw [hme] at h3 h4
          omega
        · exact .inl hv
    · subst hc
      obtain ⟨nn, rfl⟩ : ∃ k : Nat, n = (k : Int) := ⟨n.toNat, by omega⟩
      have hval : m.valid := valid_get.2 fun q hq => by
        by_cases h : q = j
        · subst h; rw [hme]; omega
        · rw [hm0 q h]; omega
      have h19 : ∀ H, Res (callI tab 19 [.vec 1 true m.cells, .int .i64 ((nn : Nat) : Int)] H) fun e H' => H' = H ∧ ∃ w P, e = .tup [w, .int .i64 0] ∧ ML tM w P ∧ Irr [m] P := fun H => call_19 (n := nn) hml1 (by omega) (fun x hx => by
        rw [List.mem_singleton] at hx; subst hx
        refine ⟨hval, fun q hq hnq => ?_⟩
        by_cases h : q = j
        · subst h; rw [hme]; omega
        · rw [hm0 q h]; omega) (by simp) fun r h => two_len h.nodup (good_two hm0 h)
      exact (s3_0 (X := Irr [m]) h19 (fun P h => two_len h.good.nodup (good_two hm0 h.good)) (fun P h S r hS hm => mg_two hm0 (fun a ha => good_two hm0 h.good a (hS a ha)) hm) (.inl rfl) h0 h7 h8 h9 o8 hws hb).mono fun v H' h => fin h
  have hob : ∀ {r : Option Nat} {H : Heap}, stO H 1 0 j (.cells Mo.zero.cells r) (some [.int .i64 e]) = some ((H.kill r).set 0 (.cells m.cells none)) := fun {r H} => by rw [hmd]; exact storeI hj8
  by_cases h1 : n < 0
  · simp -implicitDefEqProofs (disch := first | omega | with_unfolding_all exact eqR (Eq.refl _)) [nums, -getElem!_pos, -Int.natCast_add, -Int.natCast_mul, -Int.natCast_ediv, AF3, hs, S3_1, hf0, hag, storeZ, hrem, iaddr_arr, hob, h1]
    refine run (c := 1) (.inl ⟨rfl, by omega⟩) ?_ ?_ ?_ ?_ ?_ ?_ ?_
    any_goals (first | (simp; done) | skip)
  by_cases h2 : 8 < n
  · simp -implicitDefEqProofs (disch := first | omega | with_unfolding_all exact eqR (Eq.refl _)) [nums, -getElem!_pos, -Int.natCast_add, -Int.natCast_mul, -Int.natCast_ediv, AF3, hs, S3_1, hf0, hag, storeZ, hrem, iaddr_arr, hob, h1, h2]
    refine run (c := 1) (.inl ⟨rfl, by omega⟩) ?_ ?_ ?_ ?_ ?_ ?_ ?_
    any_goals (first | (simp; done) | skip)
  by_cases h3 : e < 0
  · simp -implicitDefEqProofs (disch := first | omega | with_unfolding_all exact eqR (Eq.refl _)) [nums, -getElem!_pos, -Int.natCast_add, -Int.natCast_mul, -Int.natCast_ediv, AF3, hs, S3_1, hf0, hag, storeZ, hrem, iaddr_arr, hob, h1, h2, h3]
    refine run (c := 1) (.inl ⟨rfl, by omega⟩) ?_ ?_ ?_ ?_ ?_ ?_ ?_
    any_goals (first | (simp; done) | skip)
  by_cases h4 : 65535 < e
  · simp -implicitDefEqProofs (disch := first | omega | with_unfolding_all exact eqR (Eq.refl _)) [nums, -getElem!_pos, -Int.natCast_add, -Int.natCast_mul, -Int.natCast_ediv, AF3, hs, S3_1, hf0, hag, storeZ, hrem, iaddr_arr, hob, h1, h2, h3, h4]
    refine run (c := 1) (.inl ⟨rfl, by omega⟩) ?_ ?_ ?_ ?_ ?_ ?_ ?_
    any_goals (first | (simp; done) | skip)
  by_cases h5 : 0 < e
  · by_cases h6 : n ≤ (j : Int)
    · simp -implicitDefEqProofs (disch := first | omega | with_unfolding_all exact eqR (Eq.refl _)) [nums, -getElem!_pos, -Int.natCast_add, -Int.natCast_mul, -Int.natCast_ediv, AF3, hs, S3_1, hf0, hag, storeZ, hrem, iaddr_arr, hob, h1, h2, h3, h4, h5, hwj, h6]
      refine run (c := 1) (.inl ⟨rfl, by omega⟩) ?_ ?_ ?_ ?_ ?_ ?_ ?_
      any_goals (first | (simp; done) | skip)
    · simp -implicitDefEqProofs (disch := first | omega | with_unfolding_all exact eqR (Eq.refl _)) [nums, -getElem!_pos, -Int.natCast_add, -Int.natCast_mul, -Int.natCast_ediv, AF3, hs, S3_1, hf0, hag, storeZ, hrem, iaddr_arr, hob, h1, h2, h3, h4, h5, hwj, h6]
      refine run (c := 0) (.inr ⟨rfl, by omega⟩) ?_ ?_ ?_ ?_ ?_ ?_ ?_
      any_goals (first | (simp; done) | skip)
  · simp -implicitDefEqProofs (disch := first | omega | with_unfolding_all exact eqR (Eq.refl _)) [nums, -getElem!_pos, -Int.natCast_add, -Int.natCast_mul, -Int.natCast_ediv, AF3, hs, S3_1, hf0, hag, storeZ, hrem, iaddr_arr, hob, h1, h2, h3, h4, h5]
    refine run (c := 0) (.inr ⟨rfl, by omega⟩) ?_ ?_ ?_ ?_ ?_ ?_ ?_
    any_goals (first | (simp; done) | skip)
end
end Go.Mach.Ytl
