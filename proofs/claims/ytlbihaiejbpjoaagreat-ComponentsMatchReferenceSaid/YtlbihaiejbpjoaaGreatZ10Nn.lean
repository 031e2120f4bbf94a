/-
  Pruned copy of the text Nn. By an AI agent.
-/
import Derived.Test.YtlbihaiejbpjoaaGreatZ10Nk
import Derived.Test.YtlbihaiejbpjoaaGreatZ10Cf
import Derived.Test.YtlbihaiejbpjoaaGreatZ10Cs
set_option linter.unusedSimpArgs false
set_option linter.unusedVariables false
set_option maxRecDepth 100000
namespace Go.Mach.Ytl
open Go.Mach
theorem cmp_trans {a b c : Mo} (h : Mo.cmp a b < 0) (k : Mo.cmp b c ≤ 0) : Mo.cmp a c = -1 := by
  rw [cmp_lex]
  exact lex_trans a.list b.list c.list rfl rfl (by rw [← cmp_lex]; exact h) (by rw [← cmp_lex]; exact k)
theorem cmp_pm {a b : Mo} : Mo.cmp a b = -1 ∨ Mo.cmp a b = 0 ∨ Mo.cmp a b = 1 := by rw [cmp_lex]; exact lex_range _ _
theorem cmp_self {a : Mo} : Mo.cmp a a = 0 := cmp_eq.2 rfl
abbrev down : Mo → Mo → Int := fun a c => Mo.cmp c a
theorem swo_down : Sort.SWO (ltc down) where
  irrefl x := by simp [ltc, down, cmp_self]
  trans x y z h k := by
    simp only [ltc, down, decide_eq_true_eq] at *
    have := cmp_trans k (by omega : Mo.cmp y x ≤ 0)
    omega
  ntrans x y z h k := by
    simp only [ltc, down, decide_eq_false_iff_not] at *
    intro hn
    have h1 := cmp_neg (a := y) (b := x)
    have h2 := cmp_neg (a := z) (b := y)
    have h3 := cmp_trans hn (by omega : Mo.cmp x y ≤ 0)
    omega
def Desc (r : List Mo) : Prop := r.Pairwise fun a b => Mo.cmp a b = 1
def Low (l : List Mo) (m : Mo) : Prop := m ∈ l ∧ ∀ d ∈ l, Mo.le d m → d = m
structure IsMin (l r : List Mo) : Prop where
  desc : Desc r
  mem : ∀ m, m ∈ r ↔ Low l m
theorem ck_mem {d : Array Mo} {m : Mo} : ∀ j, j ≤ d.size → (m ∈ ck d j ↔ m ∈ d.toList.take j) := by
  intro j
  induction j with
  | zero => intro _; simp [ck]
  | succ j ih =>
    intro h
    rw [ck, take_snoc (by omega), List.mem_append, List.mem_append, ih (by omega)]
    by_cases hc : j = 0 ∨ d[j]! ≠ d[j - 1]!
    · rw [if_pos hc]
    · rw [if_neg hc]
      have h1 : d[j]! = d[j - 1]! := by apply Decidable.byContradiction; intro hn; exact hc (.inr hn)
      have h0 : j ≠ 0 := fun hn => hc (.inl hn)
      constructor
      · intro h; rcases h with h | h
        · exact .inl h
        · cases h
      · intro h
        rcases h with h | h
        · exact .inl h
        · left
          rw [List.mem_singleton] at h
          rw [h, h1]
          have : d.toList.take j = d.toList.take (j - 1) ++ [d[j - 1]!] := by
            have := take_snoc (d := d) (i := j - 1) (by omega)
            rwa [Nat.sub_add_cancel (by omega)] at this
          rw [this]; simp
theorem ck_desc {d : Array Mo} {n : Nat} (hs : Sort.SortedIn (ltc down) 0 n d) (hn : n ≤ d.size) : ∀ j, j ≤ n → Desc (ck d j) ∧ ∀ x ∈ ck d j, 0 < j ∧ 0 ≤ Mo.cmp x d[j - 1]! := by
  intro j
  induction j with
  | zero => intro _; exact ⟨List.Pairwise.nil, fun x h => nomatch h⟩
  | succ j ih =>
    intro hj
    obtain ⟨h1, h2⟩ := ih (by omega)
    have step : ∀ x ∈ ck d j, 0 ≤ Mo.cmp x d[j]! := by
      intro x hx
      obtain ⟨h0, hx⟩ := h2 x hx
      have hsj := hs (j - 1) j (by omega) (by omega) (by omega)
      simp only [ltc, down, decide_eq_false_iff_not] at hsj
      apply Decidable.byContradiction; intro hc
      have n1 := cmp_neg (a := d[j - 1]!) (b := d[j]!)
      have n2 := cmp_neg (a := x) (b := d[j - 1]!)
      have := cmp_trans (by omega : Mo.cmp x d[j]! < 0) (by omega : Mo.cmp d[j]! d[j - 1]! ≤ 0)
      omega
    rw [ck]
    by_cases hc : j = 0 ∨ d[j]! ≠ d[j - 1]!
    · rw [if_pos hc]
      refine ⟨?_, fun x hx => ⟨by omega, ?_⟩⟩
      · refine List.pairwise_append.2 ⟨h1, by simp, fun x hx y hy => ?_⟩
        rw [List.mem_singleton] at hy
        subst hy
        have := step x hx
        rcases cmp_pm (a := x) (b := d[j]!) with h | h | h
        · omega
        · exfalso
          obtain ⟨h0, hx'⟩ := h2 x hx
          have hsj := hs (j - 1) j (by omega) (by omega) (by omega)
          simp only [ltc, down, decide_eq_false_iff_not] at hsj
          rw [cmp_eq] at h
          rw [h] at hx'
          have n1 := cmp_neg (a := d[j - 1]!) (b := d[j]!)
          have : Mo.cmp d[j]! d[j - 1]! = 0 := by omega
          rw [cmp_eq] at this
          rcases hc with hc | hc
          · omega
          · exact hc this
        · exact h
      · rw [Nat.add_sub_cancel]
        rcases List.mem_append.1 hx with h | h
        · exact step x h
        · rw [List.mem_singleton] at h; rw [h, cmp_self]; omega
    · rw [if_neg hc, List.append_nil]
      exact ⟨h1, fun x hx => ⟨by omega, by rw [Nat.add_sub_cancel]; exact step x hx⟩⟩
theorem call_109z {v f : AV} {H : Heap} : callI tab 73 [v, .int .i64 0, .int .i64 0, f] H = some (.tup [], H) := by
  refine callI_enter tab_109 (by simp [AF109]) (.inl rfl) ?_
  have e : IntKind.i64.wrap 1 = 1 := rfl
  simp -implicitDefEqProofs (disch := first | omega | with_unfolding_all exact eqR (Eq.refl _)) [nums, -getElem!_pos, -Int.natCast_add, -Int.natCast_mul, -Int.natCast_ediv, AF109, e]
  obtain ⟨il, hil⟩ : ∃ x, x = Jtm.inLoop L109_4 := ⟨_, rfl⟩; rw [li_eq' il hil]
  simp -implicitDefEqProofs (disch := first | omega | with_unfolding_all exact eqR (Eq.refl _)) [nums, -getElem!_pos, -Int.natCast_add, -Int.natCast_mul, -Int.natCast_ediv, L109_4]
  subst hil
  simp -implicitDefEqProofs (disch := first | omega | with_unfolding_all exact eqR (Eq.refl _)) [nums, -getElem!_pos, -Int.natCast_add, -Int.natCast_mul, -Int.natCast_ediv]
theorem call_100z {v f : AV} {n : Nat} {H : Heap} : callI tab 58 [v, .int .i64 0, .int .i64 0, .int .i64 n, f] H = some (.tup [], H) := by
  refine callI_enter tab_100 (by simp [AF100]) (.inl rfl) ?_
  have e : IntKind.i64.wrap 0 = 0 := rfl
  simp -implicitDefEqProofs (disch := first | omega | with_unfolding_all exact eqR (Eq.refl _)) [nums, -getElem!_pos, -Int.natCast_add, -Int.natCast_mul, -Int.natCast_ediv, AF100]
  obtain ⟨il, hil⟩ : ∃ x, x = Jtm.inLoop L100_6 := ⟨_, rfl⟩; rw [li_eq' il hil]
  simp -implicitDefEqProofs (disch := first | omega | with_unfolding_all exact eqR (Eq.refl _)) [nums, -getElem!_pos, -Int.natCast_add, -Int.natCast_mul, -Int.natCast_ediv, L100_6, call_109z, e]
  subst hil
  simp -implicitDefEqProofs (disch := first | omega | with_unfolding_all exact eqR (Eq.refl _)) [nums, -getElem!_pos, -Int.natCast_add, -Int.natCast_mul, -Int.natCast_ediv]
theorem call_70z {v f : AV} {H : Heap} (hv : lenA H 1 v = some (.int .i64 0)) (hv' : ∀ H', lenA H' 1 v = lenA H 1 v) : callI tab 32 [v, f] H = some (.tup [], H) := by
  refine callI_enter tab_70 (by simp [AF70]) (.inl rfl) ?_
  have e : IntKind.u64.wrap 0 = 0 := rfl
  have h := hv' H.begin
  rw [hv] at h
  have hc : callI tab 59 [.int .u64 0] H.begin = some (.int .i64 (Sort.bitsLen 0), H.begin) := call_101 (x := 0) (by omega) (H := H.begin)
  have hz := call_100z (v := v) (f := f) (n := Sort.bitsLen 0) (H := H.begin)
  simp -implicitDefEqProofs (disch := first | omega | with_unfolding_all exact eqR (Eq.refl _)) [nums, -getElem!_pos, -Int.natCast_add, -Int.natCast_mul, -Int.natCast_ediv, AF70, h, e, hc, hz]
theorem call_97z {v f : AV} {H : Heap} (hv : lenA H.begin 1 v = some (.int .i64 0)) : callI tab 48 [v, f] H = some (.int .i64 (-1), H) := by
  refine callI_enter tab_97 (by simp [AF97]) (.inl rfl) ?_
  simp -implicitDefEqProofs (disch := first | omega | with_unfolding_all exact eqR (Eq.refl _)) [nums, -getElem!_pos, -Int.natCast_add, -Int.natCast_mul, -Int.natCast_ediv, AF97, hv]
  obtain ⟨il, hil⟩ : ∃ x, x = Jtm.inLoop L97_2 := ⟨_, rfl⟩; rw [li_eq' il hil]
  simp -implicitDefEqProofs (disch := first | omega | with_unfolding_all exact eqR (Eq.refl _)) [nums, -getElem!_pos, -Int.natCast_add, -Int.natCast_mul, -Int.natCast_ediv, L97_2]
  subst hil
  simp -implicitDefEqProofs (disch := first | omega | with_unfolding_all exact eqR (Eq.refl _)) [nums, -getElem!_pos, -Int.natCast_add, -Int.natCast_mul, -Int.natCast_ediv, S97_3]
theorem call_88z {v f : AV} {H : Heap} (hv : ∀ H', lenA H' 1 v = some (.int .i64 0)) (hn : ∀ b n, v.noNew b (n + 1) = true) : callI tab 50 [v, f] H = some (v, H) := by
  refine callI_enter tab_88 (by simp [AF88]) (.inl rfl) ?_
  have hw : wrapA H v H.begin = (v, H) := wrap_begin (hn _ _)
  simp -implicitDefEqProofs (disch := first | omega | with_unfolding_all exact eqR (Eq.refl _)) [nums, -getElem!_pos, -Int.natCast_add, -Int.natCast_mul, -Int.natCast_ediv, AF88, call_97z (hv _), hw]
theorem call_92z {v : AV} {H : Heap} (hv : ∀ H', lenA H' 1 v = some (.int .i64 0)) (hn : ∀ b n, v.noNew b (n + 1) = true) : callI tab 54 [v] H = some (v, H) := by
  refine callI_enter tab_92 (by simp [AF92]) (.inl rfl) ?_
  have hw : wrapA H v H.begin = (v, H) := wrap_begin (hn _ _)
  simp -implicitDefEqProofs (disch := first | omega | with_unfolding_all exact eqR (Eq.refl _)) [nums, -getElem!_pos, -Int.natCast_add, -Int.natCast_mul, -Int.natCast_ediv, AF92, hv, hw]
theorem frz_live {α : Type} {t : Ty α} {b m id k lo : Nat} {ex : Bool} {d : Array α} {H : Heap} (hd : H.obj id = .cells (t.arr d) none) (hb : b ≤ id) (hk : k ≤ d.size) (hl : k ≤ lo) :
    frz b (m + 1) H (.sl id 0 k lo ex t.e) = some (.vec k (ex && lo == k) (t.row (d.toList.take k)), H.set id (.frz (t.arr d))) := by
  have h1 : (t.arr d).length = d.size * t.e := t.arr_length d
  have h2 : k * t.e ≤ d.size * t.e := Nat.mul_le_mul_right _ hk
  have hp : (t.arr d).all AV.pure = true := t.row_pure _
  have h3 : (t.arr d).take (k * t.e) = t.row (d.toList.take k) := t.row_take _ _
  rw [frz, if_neg (by omega), hd]
  simp only [hp, if_true]
  rw [if_pos ⟨by rw [h1]; omega, hl⟩, List.drop_zero, h3]
  rfl
theorem lowest_iff {l : List Mo} {m : Mo} : (m ∈ l.filter fun m => !l.any fun a => !decide (a = m) && dvd a m) ↔ Low l m := by
  rw [List.mem_filter]
  unfold Low
  constructor
  · rintro ⟨h1, h2⟩
    refine ⟨h1, fun d hd hle => ?_⟩
    simp only [Bool.not_eq_true', List.any_eq_false, Bool.and_eq_true, decide_eq_false_iff_not, not_and] at h2
    have := h2 d hd
    apply Decidable.byContradiction
    intro hn
    exact this hn (by unfold dvd; rw [decide_eq_true_eq, min_le]; exact hle)
  · rintro ⟨h1, h2⟩
    refine ⟨h1, ?_⟩
    simp only [Bool.not_eq_true', List.any_eq_false, Bool.and_eq_true, decide_eq_false_iff_not, not_and]
    intro d hd hn hdv
    unfold dvd at hdv
    rw [decide_eq_true_eq, min_le] at hdv
    exact hn (h2 d hd hdv)
theorem call_49 {v : AV} {l : List Mo} {H : Heap} (hv : ML tM v l) (hl : l.length < 65536) : Res (callI tab 27 [v] H) fun e H' => H' = H ∧ ∃ r, ML tM e r ∧ IsMin l r := by
  have hfz := hv.frz
  have hfl := hv.flat
  refine .hide fun Q hQ => .enter tab_49 (by simp [AF49]) (.inr (by simp [hfz])) ?_
  have hmin0 : IsMin [] [] := ⟨List.Pairwise.nil, fun m => by simp [Low]⟩
  by_cases hne : l = []
  · subst hne
    rcases hv with ⟨rfl, -⟩ | ⟨ex, rfl⟩
    · have h1 : ∀ H', lenA H' 1 .nils = some (.int .i64 0) := fun _ => rfl
      simp -implicitDefEqProofs (disch := first | omega | with_unfolding_all exact eqR (Eq.refl _)) [nums, -getElem!_pos, -Int.natCast_add, -Int.natCast_mul, -Int.natCast_ediv, AF49, load1, call_87n, call_88z h1 (fun _ _ => rfl), call_70z (h1 _) (fun _ => rfl), call_92z h1 (fun _ _ => rfl)]
      exact .mk (hQ _ _ ⟨rfl, [], .inl ⟨rfl, rfl⟩, hmin0⟩)
    · have h1 : ∀ H', lenA H' 1 (.vec 0 true []) = some (.int .i64 0) := fun _ => rfl
      have h2 : tM.row [] = [] := rfl
      simp -implicitDefEqProofs (disch := first | omega | with_unfolding_all exact eqR (Eq.refl _)) [nums, -getElem!_pos, -Int.natCast_add, -Int.natCast_mul, -Int.natCast_ediv, AF49, h2, load1, call_87v, call_88z h1 (fun _ _ => rfl), call_70z (h1 _) (fun _ => rfl), call_92z h1 (fun _ _ => rfl)]
      exact .mk (hQ _ _ ⟨rfl, [], .inr ⟨true, rfl⟩, hmin0⟩)
  · obtain ⟨ex, rfl⟩ : ∃ ex, v = .vec l.length ex (tM.row l) := by
      rcases hv with ⟨rfl, h⟩ | h
      · exact (hne h).elim
      · exact h
    have hcl := fun H => call_87 (ex := ex) (H := H) hl hne
    simp -implicitDefEqProofs (disch := first | omega | with_unfolding_all exact eqR (Eq.refl _)) [nums, -getElem!_pos, -Int.natCast_add, -Int.natCast_mul, -Int.natCast_ediv, AF49, load1, hcl]
    obtain ⟨o, ho⟩ : ∃ o, o = AObj.cells [.vec l.length ex (tM.row l)] none := ⟨_, rfl⟩
    rw [← ho]
    have hn1 : (H.begin.new o).next = H.next + 1 := rfl
    have hid : H.next + 1 < ((H.begin.new o).new (.cells (tM.row l) none)).next := by show _ < H.next + 1 + 1; omega
    have hob : ((H.begin.new o).new (.cells (tM.row l) none)).obj H.next = o := by simp
    have hod : ((H.begin.new o).new (.cells (tM.row l) none)).obj (H.next + 1) = .cells (tM.row l) none := by simp
    have hws0 : ((H.begin.new o).new (.cells (tM.row l) none)).ws = [] := rfl
    have hb0 : ((H.begin.new o).new (.cells (tM.row l) none)).base = H.next := rfl
    generalize (H.begin.new o).new (.cells (tM.row l) none) = H2 at *
    have hp : PredM 51 H.next o (fun m => l.any fun a => !decide (a = m) && dvd a m) := by rw [ho]; exact call_89 (.inr ⟨ex, rfl⟩) (by omega)
    refine .call (call_88 (id := H.next + 1) (ex := false) hp hid (by omega) (by omega) hob hod (by omega)) fun e H3 ⟨d, k, he, hsz, hk, htk, hw⟩ => ?_
    subst he
    simp -implicitDefEqProofs (disch := first | omega | with_unfolding_all exact eqR (Eq.refl _)) [nums, -getElem!_pos, -Int.natCast_add, -Int.natCast_mul, -Int.natCast_ediv]
    refine .call (call_70 (lo := l.length) (ex := false) (len := k) call_91 swo_down (by rw [hw.nxt]; exact hid) hw.at (by omega) (by omega) (by omega)) fun e H4 ⟨he, d2, hp2, hs2, hw2⟩ => ?_
    subst he
    have hw12 := hw.trans hw2
    have hsz2 := hp2.1
    simp -implicitDefEqProofs (disch := first | omega | with_unfolding_all exact eqR (Eq.refl _)) [nums, -getElem!_pos, -Int.natCast_add, -Int.natCast_mul, -Int.natCast_ediv]
    refine .call (call_92 (id := H.next + 1) (n := k) (lo := l.length) (ex := false) (d := d2) hk (by omega) (by omega) (by rw [hw12.nxt]; exact hid) hw12.at) fun e H5 ⟨d3, k3, he, hsz3, hk3, htk3, hw3⟩ => ?_
    subst he
    have hwa := hw12.trans hw3
    have hz := frz_live (t := tM) (b := H.next) (m := 5) (id := H.next + 1) (k := k3) (lo := l.length) (ex := false) hwa.at (by omega) (by omega) (by omega)
    rw [show tM.e = 8 from rfl, htk3] at hz
    have hws : H5.ws = [] := own_ws hwa hws0 (by rw [hb0]; omega)
    have hws' : (H5.set (H.next + 1) (.frz (tM.arr d3))).ws = [] := by
      rw [set_ws, hwa.base, hb0, if_neg (by omega)]; exact hws
    have hlen : (ck d2 k).length = k3 := by rw [← htk3]; simp; omega
    simp -implicitDefEqProofs (disch := first | omega | with_unfolding_all exact eqR (Eq.refl _)) [nums, -getElem!_pos, -Int.natCast_add, -Int.natCast_mul, -Int.natCast_ediv, hz]
    refine .mk (hQ _ _ ⟨rfl, ck d2 k, .inr ⟨false, by rw [hlen]⟩, (ck_desc hs2 (by omega) k (Nat.le_refl _)).1, fun m => ?_⟩)
    have hperm := hp2.2.2
    rw [Array.toList_extract, Array.toList_extract] at hperm
    rw [ck_mem k (by omega), ← lowest_iff, ← htk]
    simpa [List.extract_eq_take_drop] using hperm.mem_iff (a := m)
end Go.Mach.Ytl
set_option linter.unusedSimpArgs false
set_option linter.unusedVariables false
set_option maxRecDepth 100000
namespace Go.Mach
structure Ow (H0 H : Heap) : Prop where
  obj : ∀ i, i < H0.next → H.obj i = H0.obj i
  next : H0.next ≤ H.next
  base : H.base = H0.base
  ws : H.ws = H0.ws
theorem Ow.refl (H : Heap) : Ow H H := ⟨fun _ _ => rfl, Nat.le_refl _, rfl, rfl⟩
theorem Ow.new {H0 H : Heap} (h : Ow H0 H) (o : AObj) : Ow H0 (H.new o) where
  obj i hi := by
    have := h.next
    simp only [Heap.new, upd]; rw [if_neg (by omega), h.obj i hi]
  next := by have := h.next; simp only [Heap.new]; omega
  base := h.base
  ws := h.ws
theorem Ow.set {H0 H : Heap} (h : Ow H0 H) {id : Nat} (o : AObj) (hid : H0.next ≤ id) (hb : H0.base ≤ H0.next) : Ow H0 (H.set id o) where
  obj i hi := by simp only [Heap.set, upd]; rw [if_neg (by omega), h.obj i hi]
  next := h.next
  base := h.base
  ws := by
    have := h.base
    simp only [Heap.set]; rw [if_neg (by omega)]; exact h.ws
inductive Acc {α : Type} (t : Ty α) (H0 H : Heap) : AV → List α → Prop
  | nil : Acc t H0 H .nils []
  | vec : Acc t H0 H (.vec 0 true []) []
  | live (id : Nat) (rel : Option Nat) (l : List α) (n : Nat) : n = l.length → H.obj id = .cells (t.row l) rel → H0.next ≤ id → id < H.next → (∀ r, rel = some r → H0.next ≤ r ∧ r ≠ id) → l ≠ [] → Acc t H0 H (.sl id 0 n n false t.e) l
theorem kill_ow {H0 H : Heap} {rel : Option Nat} (h : Ow H0 H) (hr : ∀ r, rel = some r → H0.next ≤ r) (hb : H0.base ≤ H0.next) : Ow H0 (H.kill rel) ∧ (H.kill rel).next = H.next ∧ ∀ i, rel ≠ some i → (H.kill rel).obj i = H.obj i := by
  cases rel with
  | none => exact ⟨h, rfl, fun _ _ => rfl⟩
  | some r => exact ⟨h.set _ (hr r rfl) hb, rfl, fun i hi => by simp only [Heap.kill, Heap.set, upd]; rw [if_neg (fun e => hi (by rw [e]))]⟩
theorem Ow.trans {H0 H1 H2 : Heap} (a : Ow H0 H1) (b : Ow H1 H2) : Ow H0 H2 where
  obj i hi := (b.obj i (Nat.lt_of_lt_of_le hi a.next)).trans (a.obj i hi)
  next := Nat.le_trans a.next b.next
  base := b.base.trans a.base
  ws := b.ws.trans a.ws
theorem Acc.app {α : Type} {t : Ty α} {H0 H : Heap} {v : AV} {l m : List α} {bs : Nat} {ex : Bool} {n : Nat} (h : Acc t H0 H v l) (ho : Ow H0 H) (hb : H0.base ≤ H0.next) (hm : m ≠ []) (hn : n = m.length) (hs : (l.length + m.length) * bs ≤ 2 ^ 45) :
    ∃ v' H', appA H t.e bs v (.vec n ex (t.row m)) = some (v', H') ∧ Acc t H0 H' v' (l ++ m) ∧ Ow H0 H' := by
  subst hn
  have hlen : (t.row m).length = m.length * t.e := t.row_length m
  have hm0 : m.length ≠ 0 := by simpa using hm
  have hsrc : srcA H t.e (.vec m.length ex (t.row m)) = some (m.length, t.row m) := by simp [srcA, hlen]
  cases h with
  | nil =>
    refine ⟨.sl H.next 0 m.length m.length false t.e, H.new (.cells (t.row m) none), ?_, .live H.next none ([] ++ m) m.length (by simp) ?_ (ho.next) (by show H.next < H.next + 1; omega) (fun r h => by cases h) (by simpa using hm), ho.new _⟩
    · simp only [appA, hsrc]
      rw [if_neg hm0, if_pos (by simpa using hs)]
    · simp [Heap.new, upd]
  | vec =>
    refine ⟨.sl H.next 0 m.length m.length false t.e, H.new (.cells (t.row m) none), ?_, .live H.next none ([] ++ m) m.length (by simp) ?_ (ho.next) (by show H.next < H.next + 1; omega) (fun r h => by cases h) (by simpa using hm), ho.new _⟩
    · simp only [appA, hsrc]
      rw [if_neg hm0, if_pos ⟨by simpa using hs, by simp⟩]
      simp
    · simp [Heap.new, upd]
  | live id rel l n hnl hobj hid hidn hrel hne =>
    subst hnl
    have hl : (t.row l).length = l.length * t.e := t.row_length l
    have hk := kill_ow ho (fun r h => (hrel r h).1) hb
    have hne2 : id ≠ H.next := by omega
    refine ⟨.sl H.next 0 (l.length + m.length) (l.length + m.length) false t.e, ((H.kill rel).set id (.cells (t.row l) (some H.next))).new (.cells (t.row l ++ t.row m) (some id)), ?_, ?_, (hk.1.set _ hid hb).new _⟩
    · simp only [appA, hsrc]
      rw [if_neg hm0]
      simp only [ne_eq, not_true_eq_false, if_false]
      rw [hobj]
      simp only
      rw [if_neg (by omega), if_pos hs]
      simp [hl]
    · have hnx : ((H.kill rel).set id (.cells (t.row l) (some H.next))).next = H.next := hk.2.1
      refine .live H.next (some id) (l ++ m) _ (by simp) ?_ ho.next ?_ (fun r h => ?_) (by simp [hne])
      · simp only [Heap.new, upd]
        rw [if_pos (by rw [hnx]), t.row_append]
      · show H.next < ((H.kill rel).set id (.cells (t.row l) (some H.next))).next + 1
        rw [hnx]; omega
      · cases h; exact ⟨hid, hne2⟩
theorem Acc.lenA {α : Type} {t : Ty α} {H0 H H' : Heap} {v : AV} {l : List α} (h : Acc t H0 H v l) : lenA H' 1 v = some (.int .i64 l.length) := by
  cases h with
  | nil => rfl
  | vec => rfl
  | live id rel l n hn => subst hn; rfl
theorem Acc.frz {α : Type} {t : Ty α} {H0 H : Heap} {v : AV} {l : List α} (h : Acc t H0 H v l) (ho : Ow H0 H) (hb : H0.base ≤ H0.next) {b : Nat} (hbn : b ≤ H0.next) (m : Nat) : ∃ v' H', frz b (m + 1) H v = some (v', H') ∧ ML t v' l ∧ Ow H0 H' := by
  cases h with
  | nil => exact ⟨.nils, H, rfl, .inl ⟨rfl, rfl⟩, ho⟩
  | vec => exact ⟨.vec 0 true [], H, rfl, .inr ⟨true, rfl⟩, ho⟩
  | live id rel l n hn hobj hid hidn hrel hne =>
    subst hn
    have hl : (t.row l).length = l.length * t.e := t.row_length l
    have hk := kill_ow ho (fun r h => (hrel r h).1) hb
    refine ⟨.vec l.length false (t.row l), (H.kill rel).set id (.frz (t.row l)), ?_, .inr ⟨false, rfl⟩, hk.1.set _ hid hb⟩
    rw [Mach.frz, if_neg (by omega), hobj]
    simp only [t.row_pure, if_true]
    rw [if_pos ⟨by omega, Nat.le_refl _⟩, List.drop_zero, List.take_of_length_le (by omega)]
    rfl
theorem Acc.rd {α : Type} {t : Ty α} {H0 H : Heap} {v : AV} {l : List α} (h : Acc t H0 H v l) : Rd t H v l := by
  cases h with
  | nil => exact (ML.rd (.inl ⟨rfl, rfl⟩) H)
  | vec => exact ML.rd (t := t) (l := []) (.inr ⟨true, rfl⟩) H
  | live id rel l n hn hobj hid hidn hrel hne => exact Rd.live hobj hn (by rw [hn]; simp) (by omega)
theorem Acc.other {α : Type} {t : Ty α} {H0 H H' : Heap} {v : AV} {l : List α} (h : Acc t H0 H v l) (hn : H.next ≤ H'.next) (ho : ∀ i, H0.next ≤ i → i < H.next → H'.obj i = H.obj i) : Acc t H0 H' v l := by
  cases h with
  | nil => exact .nil
  | vec => exact .vec
  | live id rel l n hnl hobj hid hidn hrel hne => exact .live id rel l n hnl ((ho id hid hidn).trans hobj) hid (by omega) hrel hne
def bslR (H : Heap) (n e : Nat) : Option (List AV) → R
  | some cs => if cs.all AV.pure then some (.vec n true cs, H) else if n * e ≤ cs.length then some (.sl H.next 0 n n true e, H.new (.cells cs none)) else none
  | none => none
theorem heapA_bslice {f : AOpd → AV} {H : Heap} {n e : Nat} {z : List AV} {ps : List (Nat × Nat × AOpd)} : heapA f H (.bslice n e z ps) = bslR H n e (fillA z (ps.map fun p => (p.1, p.2.1, f p.2.2))) := by
  simp only [heapA, bslR]
  cases fillA z (ps.map fun p => (p.1, p.2.1, f p.2.2)) <;> rfl
theorem fill_nil : fillA [] [] = some [] := rfl
theorem bslR_nil {H : Heap} {e : Nat} : bslR H 0 e (some []) = some (.vec 0 true [], H) := rfl
attribute [simp] heapA_bslice fill_nil bslR_nil
namespace Ytl
theorem bslR_mono {H : Heap} {a : Mo} : bslR H 1 8 (some a.cells) = some (.vec 1 true a.cells, H) := rfl
theorem row_one (a : Mo) : a.cells = tM.row [a] := by simp [Ty.row]; rfl
theorem fill_mono {a : Mo} : fillA Mo.zero.cells [(0, 8, mono a)] = some a.cells := rfl
attribute [simp ↓ high] fill_mono
section
variable {s : List Jtm} {k : KF} {Q : AV → Heap → Prop}
theorem l51_2 {v w : AV} {l m : List Mo} {H0 H : Heap} (hv : ML tM v l) (hw : ML tM w m) (hlm : l.length = m.length) (hl : l.length < 2 ^ 40) : ∀ (n i : Nat) (σ : Sig), l.length - i = n → σ 0 = v → σ 1 = w → σ 5 = .int .i64 (i : Nat) → i ≤ l.length →
    Res (some (wrapA H0 (.bool (decide (l.drop i = m.drop i))) H)) Q →
    Res (li (callI tab) L51_2 [.inBlock 0, .code S51_3] (fink [.tmp 4] true H0) σ H) Q := by
  intro n
  have hln := (hv.rd H).1
  induction n with
  | zero =>
    intro i σ hm h0 h1 h5 hi hQ
    rw [List.drop_of_length_le (by omega), List.drop_of_length_le (by omega)] at hQ
    obtain ⟨il, hil⟩ : ∃ x, x = Jtm.inLoop L51_2 := ⟨_, rfl⟩; rw [li_eq' il hil]
    simp -implicitDefEqProofs (disch := first | omega | with_unfolding_all exact eqR (Eq.refl _)) [nums, -getElem!_pos, -Int.natCast_add, -Int.natCast_mul, -Int.natCast_ediv, L51_2, S51_1, h0, h1, h5, hln]
    subst hil
    try simp -implicitDefEqProofs (disch := first | omega | with_unfolding_all exact eqR (Eq.refl _)) [nums, -getElem!_pos, -Int.natCast_add, -Int.natCast_mul, -Int.natCast_ediv, S51_3]
    exact hQ
  | succ n ih =>
    intro i σ hm h0 h1 h5 hi hQ
    have hi1 : i < l.length := by omega
    have hi2 : i < m.length := by omega
    obtain ⟨p, e1, e2⟩ := (hv.rd H).2 i hi1
    obtain ⟨q, e3, e4⟩ := (hw.rd H).2 i hi2
    rw [show tM.e = 8 from rfl] at e1 e2 e3 e4
    rw [show tM.agg = true from rfl, show tM.val l[i] = mono l[i] from rfl] at e2
    rw [show tM.agg = true from rfl, show tM.val m[i] = mono m[i] from rfl] at e4
    rw [List.drop_eq_getElem_cons hi1, List.drop_eq_getElem_cons hi2] at hQ
    by_cases he : l[i] = m[i]
    · have : decide (l[i] :: l.drop (i + 1) = m[i] :: m.drop (i + 1)) = decide (l.drop (i + 1) = m.drop (i + 1)) := by simp only [List.cons.injEq, he, true_and]
      rw [this] at hQ
      obtain ⟨il, hil⟩ : ∃ x, x = Jtm.inLoop L51_2 := ⟨_, rfl⟩; rw [li_eq' il hil]
      simp -implicitDefEqProofs (disch := first | omega | with_unfolding_all exact eqR (Eq.refl _)) [nums, -getElem!_pos, -Int.natCast_add, -Int.natCast_mul, -Int.natCast_ediv, L51_2, S51_0, S51_1, h0, h1, h5, hln, e1, e2, e3, e4, he]
      subst hil
      try simp -implicitDefEqProofs (disch := first | omega | with_unfolding_all exact eqR (Eq.refl _)) [nums, -getElem!_pos, -Int.natCast_add, -Int.natCast_mul, -Int.natCast_ediv]
      refine ih (i + 1) _ (by omega) ?_ ?_ ?_ (by omega) hQ
      all_goals simp [h0, h1, h5]
    · have : decide (l[i] :: l.drop (i + 1) = m[i] :: m.drop (i + 1)) = false := decide_eq_false fun h => he (List.cons.inj h).1
      rw [this] at hQ
      obtain ⟨il, hil⟩ : ∃ x, x = Jtm.inLoop L51_2 := ⟨_, rfl⟩; rw [li_eq' il hil]
      simp -implicitDefEqProofs (disch := first | omega | with_unfolding_all exact eqR (Eq.refl _)) [nums, -getElem!_pos, -Int.natCast_add, -Int.natCast_mul, -Int.natCast_ediv, L51_2, S51_0, S51_1, h0, h1, h5, hln, e1, e2, e3, e4, he]
      subst hil
      try simp -implicitDefEqProofs (disch := first | omega | with_unfolding_all exact eqR (Eq.refl _)) [nums, -getElem!_pos, -Int.natCast_add, -Int.natCast_mul, -Int.natCast_ediv]
      exact hQ
theorem call_51 {v w : AV} {l m : List Mo} {H : Heap} (hv : ML tM v l) (hw : ML tM w m) (hl : l.length < 2 ^ 40) (hm : m.length < 2 ^ 40) : callI tab 15 [v, w] H = some (.bool (decide (l = m)), H) := by
  have hf1 := hv.frz
  have hf2 := hw.frz
  have hl1 := (hv.rd H.begin).1
  have hl2 := (hw.rd H.begin).1
  have : Res (callI tab 15 [v, w] H) fun e H' => e = .bool (decide (l = m)) ∧ H' = H := by
    refine .hide fun Q hQ => .enter tab_51 (by simp [AF51]) (.inr (by simp [hf1, hf2])) ?_
    by_cases hlm : l.length = m.length
    · simp -implicitDefEqProofs (disch := first | omega | with_unfolding_all exact eqR (Eq.refl _)) [nums, -getElem!_pos, -Int.natCast_add, -Int.natCast_mul, -Int.natCast_ediv, AF51, S51_4, hl1, hl2, hlm]
      refine l51_2 hv hw hlm hl _ 0 _ rfl ?_ ?_ ?_ (by omega) ?_
      any_goals (first | (simp; done) | skip)
      try rw [wrap_begin rfl]
      exact .mk (hQ _ _ ⟨rfl, rfl⟩)
    · have hne : decide (l = m) = false := by simp; intro h; exact hlm (by rw [h])
      rw [hne] at hQ
      have hc : ((l.length : Int) == (m.length : Int)) = false := by simp; omega
      simp -implicitDefEqProofs (disch := first | omega | with_unfolding_all exact eqR (Eq.refl _)) [nums, -getElem!_pos, -Int.natCast_add, -Int.natCast_mul, -Int.natCast_ediv, AF51, S51_4, hl1, hl2, hc]
      exact .mk (hQ _ _ ⟨rfl, rfl⟩)
  obtain ⟨e, H', h, rfl, rfl⟩ := this
  exact h
end
end Ytl
end Go.Mach
set_option linter.unusedSimpArgs false
set_option linter.unusedVariables false
namespace Go.Mach.Ytl
open Go.Mach
def Mo.wt (a : Mo) : Nat := a.x0.toNat + a.x1.toNat + a.x2.toNat + a.x3.toNat + a.x4.toNat + a.x5.toNat + a.x6.toNat + a.x7.toNat
def Mo.nn (a : Mo) : Prop := 0 ≤ a.x0 ∧ 0 ≤ a.x1 ∧ 0 ≤ a.x2 ∧ 0 ≤ a.x3 ∧ 0 ≤ a.x4 ∧ 0 ≤ a.x5 ∧ 0 ≤ a.x6 ∧ 0 ≤ a.x7
theorem valid_nn {a : Mo} (h : a.valid) : a.nn := by unfold Mo.valid at h; unfold Mo.nn; omega
theorem sums {A0 A1 A2 A3 A4 A5 A6 A7 B0 B1 B2 B3 B4 B5 B6 B7 : Nat} (h0 : A0 ≤ B0) (h1 : A1 ≤ B1) (h2 : A2 ≤ B2) (h3 : A3 ≤ B3) (h4 : A4 ≤ B4) (h5 : A5 ≤ B5) (h6 : A6 ≤ B6) (h7 : A7 ≤ B7) (h : ¬ A0 + A1 + A2 + A3 + A4 + A5 + A6 + A7 < B0 + B1 + B2 + B3 + B4 + B5 + B6 + B7) : A0 = B0 ∧ A1 = B1 ∧ A2 = B2 ∧ A3 = B3 ∧ A4 = B4 ∧ A5 = B5 ∧ A6 = B6 ∧ A7 = B7 := by omega
theorem nat_back {x y : Int} (hx : 0 ≤ x) (h : x ≤ y) (e : x.toNat = y.toNat) : x = y := by omega
theorem wt_lt {a b : Mo} (ha : a.nn) (h : Mo.le a b) (hne : a ≠ b) : a.wt < b.wt := by
  apply Decidable.byContradiction; intro hn
  obtain ⟨a0, a1, a2, a3, a4, a5, a6, a7⟩ := a
  obtain ⟨b0, b1, b2, b3, b4, b5, b6, b7⟩ := b
  obtain ⟨n0, n1, n2, n3, n4, n5, n6, n7⟩ := ha
  obtain ⟨l0, l1, l2, l3, l4, l5, l6, l7⟩ := h
  obtain ⟨e0, e1, e2, e3, e4, e5, e6, e7⟩ := sums (Int.toNat_le_toNat l0) (Int.toNat_le_toNat l1) (Int.toNat_le_toNat l2) (Int.toNat_le_toNat l3) (Int.toNat_le_toNat l4) (Int.toNat_le_toNat l5) (Int.toNat_le_toNat l6) (Int.toNat_le_toNat l7) hn
  apply hne
  rw [Mo.mk.injEq]
  exact ⟨nat_back n0 l0 e0, nat_back n1 l1 e1, nat_back n2 l2 e2, nat_back n3 l3 e3, nat_back n4 l4 e4, nat_back n5 l5 e5, nat_back n6 l6 e6, nat_back n7 l7 e7⟩
theorem low_below {l : List Mo} (hl : ∀ x ∈ l, x.nn) : ∀ (n : Nat) (a : Mo), a ∈ l → a.wt ≤ n → ∃ m, Low l m ∧ Mo.le m a := by
  intro n
  induction n with
  | zero =>
    intro a ha hw
    refine ⟨a, ⟨ha, fun d hd hle => ?_⟩, le_refl⟩
    apply Decidable.byContradiction; intro hn
    have := wt_lt (hl d hd) hle hn
    omega
  | succ n ih =>
    intro a ha hw
    by_cases h : ∀ d ∈ l, Mo.le d a → d = a
    · exact ⟨a, ⟨ha, h⟩, le_refl⟩
    · have : ∃ d, d ∈ l ∧ Mo.le d a ∧ d ≠ a := by
        apply Classical.byContradiction; intro hn
        exact h fun d hd hle => Classical.byContradiction fun hne => hn ⟨d, hd, hle, hne⟩
      obtain ⟨d, hd, hle, hne⟩ := this
      have := wt_lt (hl d hd) hle hne
      obtain ⟨m, hm, hml⟩ := ih d hd (by omega)
      exact ⟨m, hm, le_trans hml hle⟩
theorem IsMin.below {l r : List Mo} (h : IsMin l r) (hl : ∀ x ∈ l, x.nn) {a : Mo} (ha : a ∈ l) : ∃ m ∈ r, Mo.le m a := by
  obtain ⟨m, hm, hle⟩ := low_below hl _ a ha (Nat.le_refl _)
  exact ⟨m, (h.mem m).2 hm, hle⟩
theorem IsMin.sub {l r : List Mo} (h : IsMin l r) {a : Mo} (ha : a ∈ r) : a ∈ l := ((h.mem a).1 ha).1
theorem dvd_iff {a c : Mo} : dvd a c = true ↔ Mo.le a c := by unfold dvd; rw [decide_eq_true_eq, min_le]
theorem IsMin.any {l r : List Mo} (h : IsMin l r) (hl : ∀ x ∈ l, x.nn) (y : Mo) : l.any (fun a => dvd a y) = r.any (fun a => dvd a y) := by
  rw [Bool.eq_iff_iff, List.any_eq_true, List.any_eq_true]
  constructor
  · rintro ⟨a, ha, hd⟩
    obtain ⟨m, hm, hle⟩ := h.below hl ha
    exact ⟨m, hm, dvd_iff.2 (le_trans hle (dvd_iff.1 hd))⟩
  · rintro ⟨a, ha, hd⟩
    exact ⟨a, h.sub ha, hd⟩
theorem cmp_irr {a : Mo} : ¬ Mo.cmp a a = 1 := by rw [cmp_self]; omega
theorem cmp_tr {a b c : Mo} (h : Mo.cmp a b = 1) (k : Mo.cmp b c = 1) : Mo.cmp a c = 1 := by
  have h1 := cmp_neg (a := a) (b := b)
  have h2 := cmp_neg (a := b) (b := c)
  have h3 := cmp_neg (a := a) (b := c)
  have := cmp_trans (a := c) (b := b) (c := a) (by omega) (by omega)
  omega
theorem cmp_asymm {a b : Mo} (h : Mo.cmp a b = 1) : ¬ Mo.cmp b a = 1 := by rw [cmp_neg, h]; omega
theorem Desc.nodup {r : List Mo} (h : Desc r) : r.Nodup := by
  unfold Desc at h
  refine h.imp fun {a b} hab he => ?_
  subst he
  exact cmp_irr hab
theorem nodup_len {r : List Mo} : ∀ {l : List Mo}, r.Nodup → (∀ x ∈ r, x ∈ l) → r.length ≤ l.length := by
  induction r with
  | nil => intro l _ _; simp
  | cons a r ih =>
    intro l hn hs
    rw [List.nodup_cons] at hn
    have ha := hs a (by simp)
    have h2 : r.length ≤ (l.erase a).length := ih hn.2 fun x hx => by
      rw [List.mem_erase_of_ne (fun e => by subst e; exact hn.1 hx)]
      exact hs x (by simp [hx])
    rw [List.length_erase_of_mem ha] at h2
    have : 0 < l.length := List.length_pos_of_mem ha
    simp; omega
theorem IsMin.len {l r : List Mo} (h : IsMin l r) : r.length ≤ l.length := nodup_len h.desc.nodup fun x hx => h.sub hx
theorem Desc.ext {r : List Mo} : ∀ {q : List Mo}, Desc r → Desc q → (∀ m, m ∈ r ↔ m ∈ q) → r = q := by
  induction r with
  | nil =>
    intro q _ _ h
    exact (List.eq_nil_iff_forall_not_mem.2 fun m hm => by have := (h m).2 hm; cases this).symm
  | cons a r ih =>
    intro q hr hq h
    cases q with
    | nil => have := (h a).1 (by simp); cases this
    | cons b q =>
      unfold Desc at hr hq
      rw [List.pairwise_cons] at hr hq
      have hab : a = b := by
        have ha := (h a).1 (by simp)
        have hb := (h b).2 (by simp)
        rcases List.mem_cons.1 ha with e | ha
        · exact e
        · rcases List.mem_cons.1 hb with e | hb
          · exact e.symm
          · exact (cmp_asymm (hr.1 b hb) (hq.1 a ha)).elim
      subst hab
      congr 1
      refine ih hr.2 hq.2 fun m => ⟨fun hm => ?_, fun hm => ?_⟩
      · rcases List.mem_cons.1 ((h m).1 (by simp [hm])) with e | hm'
        · subst e; exact (cmp_irr (hr.1 m hm)).elim
        · exact hm'
      · rcases List.mem_cons.1 ((h m).2 (by simp [hm])) with e | hm'
        · subst e; exact (cmp_irr (hq.1 m hm)).elim
        · exact hm'
theorem IsMin.congr {l l' r r' : List Mo} (h : IsMin l r) (h' : IsMin l' r') (hs : ∀ m, m ∈ l ↔ m ∈ l') : r = r' := by
  refine h.desc.ext h'.desc fun m => ?_
  rw [h.mem, h'.mem]
  unfold Low
  rw [hs m]
  constructor
  · rintro ⟨h1, h2⟩; exact ⟨h1, fun d hd => h2 d ((hs d).2 hd)⟩
  · rintro ⟨h1, h2⟩; exact ⟨h1, fun d hd => h2 d ((hs d).1 hd)⟩
theorem Desc.step {r : List Mo} (h : Desc r) {i : Nat} (h0 : 0 < i) (hi : i < r.length) : Mo.cmp (r[i - 1]'(by omega)) r[i] = 1 :=
  List.pairwise_iff_getElem.1 h (i - 1) i (by omega) hi (by omega)
end Go.Mach.Ytl
set_option linter.unusedSimpArgs false
set_option linter.unusedVariables false
set_option maxRecDepth 100000
namespace Go.Mach
theorem callI_frz {T : Nat → Option AFn} {f : Nat} {fd : AFn} {args args' : List AV} {H H1 : Heap} {r : AV × Heap} (hf : T f = some fd) (hz : fd.fzA = true) (hl : args'.length = args.length) (h1 : frzL (frz H.base 6) args H = some (args', H1))
    (h2 : frzL (frz H1.base 6) args' H1 = some (args', H1)) (h : callI T f args' H1 = some r) : callI T f args H = some r := by
  obtain ⟨n, hn⟩ := callI_ex h
  cases n with
  | zero => cases hn
  | succ n =>
    refine callI_of (n := n + 1) ?_
    simp only [evalCall, hf, hz, if_true, h1, h2, hl] at hn ⊢
    exact hn
namespace Ytl
theorem call_36' {a c : Mo} {H : Heap} : callI tab 65 [mono a, mono c] H = some (.int .i64 (Mo.cmp a c), H) := callI_of (call_36 (n := 0))
section
variable {s : List Jtm} {k : KF} {Q : AV → Heap → Prop}
theorem ml_at {v : AV} {l : List Mo} (hv : ML tM v l) (H : Heap) {i : Nat} (hi : i < l.length) : ∃ p, iaddrA none 8 v (.int .i64 i) = some p ∧ loadA H true 8 p = some (mono l[i]) := (hv.rd H).2 i hi
end
end Ytl
end Go.Mach
