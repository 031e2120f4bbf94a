/-
  The minimal elements of a list. By an AI agent.
-/
import Derived.Test.YtlbihaiejbpjoaaNm
import Derived.Test.YtlbihaiejbpjoaaCf
set_option linter.unusedSimpArgs false
set_option linter.unusedVariables false
set_option maxRecDepth 100000
namespace Go.Mach.Ytl
open Go.Mach

/-! ### The order -/
theorem cmp_trans {a b c : Mo} (h : Mo.cmp a b < 0) (k : Mo.cmp b c ≤ 0) : Mo.cmp a c = -1 := by
  rw [cmp_lex]
  exact lex_trans a.list b.list c.list rfl rfl (by rw [← cmp_lex]; exact h) (by rw [← cmp_lex]; exact k)
theorem cmp_pm {a b : Mo} : Mo.cmp a b = -1 ∨ Mo.cmp a b = 0 ∨ Mo.cmp a b = 1 := by rw [cmp_lex]; exact lex_range _ _
theorem cmp_self {a : Mo} : Mo.cmp a a = 0 := cmp_eq.2 rfl
abbrev down : Mo → Mo → Int := fun a c => Mo.cmp c a
theorem swo_down : Sort.SWO (ltc down) where
  irrefl x := by simp [ltc, down, cmp_self]
  trans x y z h k := by
    simp only [ltc, down, decide_eq_true_eq] at *
    have := cmp_trans k (by omega : Mo.cmp y x ≤ 0)
    omega
  ntrans x y z h k := by
    simp only [ltc, down, decide_eq_false_iff_not] at *
    intro hn
    have h1 := cmp_neg (a := y) (b := x)
    have h2 := cmp_neg (a := z) (b := y)
    have h3 := cmp_trans hn (by omega : Mo.cmp x y ≤ 0)
    omega

/-- Strictly decreasing. -/
def Desc (r : List Mo) : Prop := r.Pairwise fun a b => Mo.cmp a b = 1
/-- A lowest element of a list: none other divides it. -/
def Low (l : List Mo) (m : Mo) : Prop := m ∈ l ∧ ∀ d ∈ l, Mo.le d m → d = m
/-- The list of the lowest elements. -/
structure IsMin (l r : List Mo) : Prop where
  desc : Desc r
  mem : ∀ m, m ∈ r ↔ Low l m

theorem ck_mem {d : Array Mo} {m : Mo} : ∀ j, j ≤ d.size → (m ∈ ck d j ↔ m ∈ d.toList.take j) := by
  intro j
  induction j with
  | zero => intro _; simp [ck]
  | succ j ih =>
    intro h
    rw [ck, take_snoc (by omega), List.mem_append, List.mem_append, ih (by omega)]
    by_cases hc : j = 0 ∨ d[j]! ≠ d[j - 1]!
    · rw [if_pos hc]
    · rw [if_neg hc]
      have h1 : d[j]! = d[j - 1]! := by apply Decidable.byContradiction; intro hn; exact hc (.inr hn)
      have h0 : j ≠ 0 := fun hn => hc (.inl hn)
      constructor
      · intro h; rcases h with h | h
        · exact .inl h
        · cases h
      · intro h
        rcases h with h | h
        · exact .inl h
        · left
          rw [List.mem_singleton] at h
          rw [h, h1]
          have : d.toList.take j = d.toList.take (j - 1) ++ [d[j - 1]!] := by
            have := take_snoc (d := d) (i := j - 1) (by omega)
            rwa [Nat.sub_add_cancel (by omega)] at this
          rw [this]; simp
theorem ck_desc {d : Array Mo} {n : Nat} (hs : Sort.SortedIn (ltc down) 0 n d) (hn : n ≤ d.size) : ∀ j, j ≤ n → Desc (ck d j) ∧ ∀ x ∈ ck d j, 0 < j ∧ 0 ≤ Mo.cmp x d[j - 1]! := by
  intro j
  induction j with
  | zero => intro _; exact ⟨List.Pairwise.nil, fun x h => nomatch h⟩
  | succ j ih =>
    intro hj
    obtain ⟨h1, h2⟩ := ih (by omega)
    have step : ∀ x ∈ ck d j, 0 ≤ Mo.cmp x d[j]! := by
      intro x hx
      obtain ⟨h0, hx⟩ := h2 x hx
      have hsj := hs (j - 1) j (by omega) (by omega) (by omega)
      simp only [ltc, down, decide_eq_false_iff_not] at hsj
      apply Decidable.byContradiction; intro hc
      have n1 := cmp_neg (a := d[j - 1]!) (b := d[j]!)
      have n2 := cmp_neg (a := x) (b := d[j - 1]!)
      have := cmp_trans (by omega : Mo.cmp x d[j]! < 0) (by omega : Mo.cmp d[j]! d[j - 1]! ≤ 0)
      omega
    rw [ck]
    by_cases hc : j = 0 ∨ d[j]! ≠ d[j - 1]!
    · rw [if_pos hc]
      refine ⟨?_, fun x hx => ⟨by omega, ?_⟩⟩
      · refine List.pairwise_append.2 ⟨h1, by simp, fun x hx y hy => ?_⟩
        rw [List.mem_singleton] at hy
        subst hy
        have := step x hx
        rcases cmp_pm (a := x) (b := d[j]!) with h | h | h
        · omega
        · exfalso
          obtain ⟨h0, hx'⟩ := h2 x hx
          have hsj := hs (j - 1) j (by omega) (by omega) (by omega)
          simp only [ltc, down, decide_eq_false_iff_not] at hsj
          rw [cmp_eq] at h
          rw [h] at hx'
          have n1 := cmp_neg (a := d[j - 1]!) (b := d[j]!)
          have : Mo.cmp d[j]! d[j - 1]! = 0 := by omega
          rw [cmp_eq] at this
          rcases hc with hc | hc
          · omega
          · exact hc this
        · exact h
      · rw [Nat.add_sub_cancel]
        rcases List.mem_append.1 hx with h | h
        · exact step x h
        · rw [List.mem_singleton] at h; rw [h, cmp_self]; omega
    · rw [if_neg hc, List.append_nil]
      exact ⟨h1, fun x hx => ⟨by omega, by rw [Nat.add_sub_cancel]; exact step x hx⟩⟩

/-! ### The machine -/
theorem call_109z {v f : AV} {H : Heap} : callI tab 109 [v, .int .i64 0, .int .i64 0, f] H = some (.tup [], H) := by
  refine callI_enter tab_109 (by simp [AF109]) (.inl rfl) ?_
  have e : IntKind.i64.wrap 1 = 1 := rfl
  simp -implicitDefEqProofs (disch := first | omega | with_unfolding_all exact eqR (Eq.refl _)) [nums, -getElem!_pos, -Int.natCast_add, -Int.natCast_mul, -Int.natCast_ediv, AF109, e]
  obtain ⟨il, hil⟩ : ∃ x, x = Jtm.inLoop L109_4 := ⟨_, rfl⟩; rw [li_eq' il hil]
  simp -implicitDefEqProofs (disch := first | omega | with_unfolding_all exact eqR (Eq.refl _)) [nums, -getElem!_pos, -Int.natCast_add, -Int.natCast_mul, -Int.natCast_ediv, L109_4]
  subst hil
  simp -implicitDefEqProofs (disch := first | omega | with_unfolding_all exact eqR (Eq.refl _)) [nums, -getElem!_pos, -Int.natCast_add, -Int.natCast_mul, -Int.natCast_ediv]
theorem call_100z {v f : AV} {n : Nat} {H : Heap} : callI tab 100 [v, .int .i64 0, .int .i64 0, .int .i64 n, f] H = some (.tup [], H) := by
  refine callI_enter tab_100 (by simp [AF100]) (.inl rfl) ?_
  have e : IntKind.i64.wrap 0 = 0 := rfl
  simp -implicitDefEqProofs (disch := first | omega | with_unfolding_all exact eqR (Eq.refl _)) [nums, -getElem!_pos, -Int.natCast_add, -Int.natCast_mul, -Int.natCast_ediv, AF100]
  obtain ⟨il, hil⟩ : ∃ x, x = Jtm.inLoop L100_6 := ⟨_, rfl⟩; rw [li_eq' il hil]
  simp -implicitDefEqProofs (disch := first | omega | with_unfolding_all exact eqR (Eq.refl _)) [nums, -getElem!_pos, -Int.natCast_add, -Int.natCast_mul, -Int.natCast_ediv, L100_6, call_109z, e]
  subst hil
  simp -implicitDefEqProofs (disch := first | omega | with_unfolding_all exact eqR (Eq.refl _)) [nums, -getElem!_pos, -Int.natCast_add, -Int.natCast_mul, -Int.natCast_ediv]
theorem call_70z {v f : AV} {H : Heap} (hv : lenA H 1 v = some (.int .i64 0)) (hv' : ∀ H', lenA H' 1 v = lenA H 1 v) : callI tab 70 [v, f] H = some (.tup [], H) := by
  refine callI_enter tab_70 (by simp [AF70]) (.inl rfl) ?_
  have e : IntKind.u64.wrap 0 = 0 := rfl
  have h := hv' H.begin
  rw [hv] at h
  have hc : callI tab 101 [.int .u64 0] H.begin = some (.int .i64 (Sort.bitsLen 0), H.begin) := call_101 (x := 0) (by omega) (H := H.begin)
  have hz := call_100z (v := v) (f := f) (n := Sort.bitsLen 0) (H := H.begin)
  simp -implicitDefEqProofs (disch := first | omega | with_unfolding_all exact eqR (Eq.refl _)) [nums, -getElem!_pos, -Int.natCast_add, -Int.natCast_mul, -Int.natCast_ediv, AF70, h, e, hc, hz]
theorem call_97z {v f : AV} {H : Heap} (hv : lenA H.begin 1 v = some (.int .i64 0)) : callI tab 97 [v, f] H = some (.int .i64 (-1), H) := by
  refine callI_enter tab_97 (by simp [AF97]) (.inl rfl) ?_
  simp -implicitDefEqProofs (disch := first | omega | with_unfolding_all exact eqR (Eq.refl _)) [nums, -getElem!_pos, -Int.natCast_add, -Int.natCast_mul, -Int.natCast_ediv, AF97, hv]
  obtain ⟨il, hil⟩ : ∃ x, x = Jtm.inLoop L97_2 := ⟨_, rfl⟩; rw [li_eq' il hil]
  simp -implicitDefEqProofs (disch := first | omega | with_unfolding_all exact eqR (Eq.refl _)) [nums, -getElem!_pos, -Int.natCast_add, -Int.natCast_mul, -Int.natCast_ediv, L97_2]
  subst hil
  simp -implicitDefEqProofs (disch := first | omega | with_unfolding_all exact eqR (Eq.refl _)) [nums, -getElem!_pos, -Int.natCast_add, -Int.natCast_mul, -Int.natCast_ediv, S97_3]
theorem call_88z {v f : AV} {H : Heap} (hv : ∀ H', lenA H' 1 v = some (.int .i64 0)) (hn : ∀ b n, v.noNew b (n + 1) = true) : callI tab 88 [v, f] H = some (v, H) := by
  refine callI_enter tab_88 (by simp [AF88]) (.inl rfl) ?_
  have hw : wrapA H v H.begin = (v, H) := wrap_begin (hn _ _)
  simp -implicitDefEqProofs (disch := first | omega | with_unfolding_all exact eqR (Eq.refl _)) [nums, -getElem!_pos, -Int.natCast_add, -Int.natCast_mul, -Int.natCast_ediv, AF88, call_97z (hv _), hw]
theorem call_92z {v : AV} {H : Heap} (hv : ∀ H', lenA H' 1 v = some (.int .i64 0)) (hn : ∀ b n, v.noNew b (n + 1) = true) : callI tab 92 [v] H = some (v, H) := by
  refine callI_enter tab_92 (by simp [AF92]) (.inl rfl) ?_
  have hw : wrapA H v H.begin = (v, H) := wrap_begin (hn _ _)
  simp -implicitDefEqProofs (disch := first | omega | with_unfolding_all exact eqR (Eq.refl _)) [nums, -getElem!_pos, -Int.natCast_add, -Int.natCast_mul, -Int.natCast_ediv, AF92, hv, hw]
theorem frz_live {α : Type} {t : Ty α} {b m id k lo : Nat} {ex : Bool} {d : Array α} {H : Heap} (hd : H.obj id = .cells (t.arr d) none) (hb : b ≤ id) (hk : k ≤ d.size) (hl : k ≤ lo) :
    frz b (m + 1) H (.sl id 0 k lo ex t.e) = some (.vec k (ex && lo == k) (t.row (d.toList.take k)), H.set id (.frz (t.arr d))) := by
  have h1 : (t.arr d).length = d.size * t.e := t.arr_length d
  have h2 : k * t.e ≤ d.size * t.e := Nat.mul_le_mul_right _ hk
  have hp : (t.arr d).all AV.pure = true := t.row_pure _
  have h3 : (t.arr d).take (k * t.e) = t.row (d.toList.take k) := t.row_take _ _
  rw [frz, if_neg (by omega), hd]
  simp only [hp, if_true]
  rw [if_pos ⟨by rw [h1]; omega, hl⟩, List.drop_zero, h3]
  rfl
theorem lowest_iff {l : List Mo} {m : Mo} : (m ∈ l.filter fun m => !l.any fun a => !decide (a = m) && dvd a m) ↔ Low l m := by
  rw [List.mem_filter]
  unfold Low
  constructor
  · rintro ⟨h1, h2⟩
    refine ⟨h1, fun d hd hle => ?_⟩
    simp only [Bool.not_eq_true', List.any_eq_false, Bool.and_eq_true, decide_eq_false_iff_not, not_and] at h2
    have := h2 d hd
    apply Decidable.byContradiction
    intro hn
    exact this hn (by unfold dvd; rw [decide_eq_true_eq, min_le]; exact hle)
  · rintro ⟨h1, h2⟩
    refine ⟨h1, ?_⟩
    simp only [Bool.not_eq_true', List.any_eq_false, Bool.and_eq_true, decide_eq_false_iff_not, not_and]
    intro d hd hn hdv
    unfold dvd at hdv
    rw [decide_eq_true_eq, min_le] at hdv
    exact hn (h2 d hd hdv)

/-- The minimal elements. -/
theorem call_49 {v : AV} {l : List Mo} {H : Heap} (hv : ML tM v l) (hl : l.length < 65536) : Res (callI tab 49 [v] H) fun e H' => H' = H ∧ ∃ r, ML tM e r ∧ IsMin l r := by
  have hfz := hv.frz
  have hfl := hv.flat
  refine .hide fun Q hQ => .enter tab_49 (by simp [AF49]) (.inr (by simp [hfz])) ?_
  have hmin0 : IsMin [] [] := ⟨List.Pairwise.nil, fun m => by simp [Low]⟩
  by_cases hne : l = []
  · subst hne
    rcases hv with ⟨rfl, -⟩ | ⟨ex, rfl⟩
    · have h1 : ∀ H', lenA H' 1 .nils = some (.int .i64 0) := fun _ => rfl
      simp -implicitDefEqProofs (disch := first | omega | with_unfolding_all exact eqR (Eq.refl _)) [nums, -getElem!_pos, -Int.natCast_add, -Int.natCast_mul, -Int.natCast_ediv, AF49, load1, call_87n, call_88z h1 (fun _ _ => rfl), call_70z (h1 _) (fun _ => rfl), call_92z h1 (fun _ _ => rfl)]
      exact .mk (hQ _ _ ⟨rfl, [], .inl ⟨rfl, rfl⟩, hmin0⟩)
    · have h1 : ∀ H', lenA H' 1 (.vec 0 true []) = some (.int .i64 0) := fun _ => rfl
      have h2 : tM.row [] = [] := rfl
      simp -implicitDefEqProofs (disch := first | omega | with_unfolding_all exact eqR (Eq.refl _)) [nums, -getElem!_pos, -Int.natCast_add, -Int.natCast_mul, -Int.natCast_ediv, AF49, h2, load1, call_87v, call_88z h1 (fun _ _ => rfl), call_70z (h1 _) (fun _ => rfl), call_92z h1 (fun _ _ => rfl)]
      exact .mk (hQ _ _ ⟨rfl, [], .inr ⟨true, rfl⟩, hmin0⟩)
  · obtain ⟨ex, rfl⟩ : ∃ ex, v = .vec l.length ex (tM.row l) := by
      rcases hv with ⟨rfl, h⟩ | h
      · exact (hne h).elim
      · exact h
    have hcl := fun H => call_87 (ex := ex) (H := H) hl hne
    simp -implicitDefEqProofs (disch := first | omega | with_unfolding_all exact eqR (Eq.refl _)) [nums, -getElem!_pos, -Int.natCast_add, -Int.natCast_mul, -Int.natCast_ediv, AF49, load1, hcl]
    obtain ⟨o, ho⟩ : ∃ o, o = AObj.cells [.vec l.length ex (tM.row l)] none := ⟨_, rfl⟩
    rw [← ho]
    have hn1 : (H.begin.new o).next = H.next + 1 := rfl
    have hid : H.next + 1 < ((H.begin.new o).new (.cells (tM.row l) none)).next := by show _ < H.next + 1 + 1; omega
    have hob : ((H.begin.new o).new (.cells (tM.row l) none)).obj H.next = o := by simp
    have hod : ((H.begin.new o).new (.cells (tM.row l) none)).obj (H.next + 1) = .cells (tM.row l) none := by simp
    have hws0 : ((H.begin.new o).new (.cells (tM.row l) none)).ws = [] := rfl
    have hb0 : ((H.begin.new o).new (.cells (tM.row l) none)).base = H.next := rfl
    generalize (H.begin.new o).new (.cells (tM.row l) none) = H2 at *
    have hp : PredM 89 H.next o (fun m => l.any fun a => !decide (a = m) && dvd a m) := by rw [ho]; exact call_89 (.inr ⟨ex, rfl⟩) (by omega)
    refine .call (call_88 (id := H.next + 1) (ex := false) hp hid (by omega) (by omega) hob hod (by omega)) fun e H3 ⟨d, k, he, hsz, hk, htk, hw⟩ => ?_
    subst he
    simp -implicitDefEqProofs (disch := first | omega | with_unfolding_all exact eqR (Eq.refl _)) [nums, -getElem!_pos, -Int.natCast_add, -Int.natCast_mul, -Int.natCast_ediv]
    refine .call (call_70 (lo := l.length) (ex := false) (len := k) call_91 swo_down (by rw [hw.nxt]; exact hid) hw.at (by omega) (by omega) (by omega)) fun e H4 ⟨he, d2, hp2, hs2, hw2⟩ => ?_
    subst he
    have hw12 := hw.trans hw2
    have hsz2 := hp2.1
    simp -implicitDefEqProofs (disch := first | omega | with_unfolding_all exact eqR (Eq.refl _)) [nums, -getElem!_pos, -Int.natCast_add, -Int.natCast_mul, -Int.natCast_ediv]
    refine .call (call_92 (id := H.next + 1) (n := k) (lo := l.length) (ex := false) (d := d2) hk (by omega) (by omega) (by rw [hw12.nxt]; exact hid) hw12.at) fun e H5 ⟨d3, k3, he, hsz3, hk3, htk3, hw3⟩ => ?_
    subst he
    have hwa := hw12.trans hw3
    have hz := frz_live (t := tM) (b := H.next) (m := 5) (id := H.next + 1) (k := k3) (lo := l.length) (ex := false) hwa.at (by omega) (by omega) (by omega)
    rw [show tM.e = 8 from rfl, htk3] at hz
    have hws : H5.ws = [] := own_ws hwa hws0 (by rw [hb0]; omega)
    have hws' : (H5.set (H.next + 1) (.frz (tM.arr d3))).ws = [] := by
      rw [set_ws, hwa.base, hb0, if_neg (by omega)]; exact hws
    have hlen : (ck d2 k).length = k3 := by rw [← htk3]; simp; omega
    simp -implicitDefEqProofs (disch := first | omega | with_unfolding_all exact eqR (Eq.refl _)) [nums, -getElem!_pos, -Int.natCast_add, -Int.natCast_mul, -Int.natCast_ediv, hz]
    refine .mk (hQ _ _ ⟨rfl, ck d2 k, .inr ⟨false, by rw [hlen]⟩, (ck_desc hs2 (by omega) k (Nat.le_refl _)).1, fun m => ?_⟩)
    have hperm := hp2.2.2
    rw [Array.toList_extract, Array.toList_extract] at hperm
    rw [ck_mem k (by omega), ← lowest_iff, ← htk]
    simpa [List.extract_eq_take_drop] using hperm.mem_iff (a := m)
end Go.Mach.Ytl
