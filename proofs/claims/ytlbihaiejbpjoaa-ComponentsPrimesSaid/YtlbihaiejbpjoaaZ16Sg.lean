/-
  Pruned copy of the text Sg. By an AI agent.
-/
import Derived.Test.YtlbihaiejbpjoaaZ16Va
import Derived.Test.YtlbihaiejbpjoaaZ16Sf
set_option linter.unusedSimpArgs false
set_option linter.unusedVariables false
set_option maxRecDepth 100000
namespace Go.Mach.Ytl
open Go.Mach
section
variable {s : List Jtm} {k : KF} {Q : AV → Heap → Prop}
attribute [local simp] guardI_u
theorem call_40' {a c : Mo} {H : Heap} : callI tab 40 [mono a, mono c] H = some (mono (Mo.map2 imin a c), H) := callI_of (call_40 (n := 0))
theorem min_le_left {a t : Mo} : Mo.le (Mo.map2 imin a t) a := le_get.2 fun q hq => by
  rw [map2_get hq]; unfold imin; split <;> omega
theorem call_32' {a t : Mo} {H : Heap} : callI tab 32 [mono a, mono (Mo.map2 imin a t)] H = some (.tup [mono (colonM t a), .bool true], H) := by
  have := callI_of (call_32 (a := a) (b := Mo.map2 imin a t) (n := 0) (H := H))
  rw [if_pos min_le_left] at this
  exact this
theorem call_42' {a : Mo} {H : Heap} : callI tab 42 [mono a] H = some (.int .i64 a.deg, H) := callI_of (call_42 (n := 0))
theorem l61_1 {v0 : AV} {L : List Mo} (hv : ML tM v0 L) (hl : L.length < 2 ^ 20) {t : Mo} {b : Nat} {H0 : Heap} (hb : H0.base ≤ H0.next) (hb3 : b < H0.next) (hob : H0.obj b = .cells t.cells none) : ∀ (m j : Nat) (σ : Sig) (H : Heap) (w : AV) (cur : List Mo), L.length - j = m → j ≤ L.length → σ 0 = v0 → σ 3 = .ptr b 0 → σ 5 = w → σ 6 = .int .i64 (j : Nat) → Acc tM H0 H w cur → Ow H0 H → cur.length ≤ j →
    (∀ σ' H' w', σ' 5 = w' → Acc tM H0 H' w' (cur ++ (L.drop j).map (colonM t)) → Ow H0 H' → Res (ai (callI tab) s k .nrm σ' H') Q) →
    Res (li (callI tab) L61_1 (.inBlock 0 :: s) k σ H) Q := by
  intro m
  induction m with
  | zero =>
    intro j σ H w cur hm hj h0 h3 h5 h6 ha ho hlen hQ
    have hln := (hv.rd H).1
    rw [List.drop_of_length_le (by omega)] at hQ
    obtain ⟨il, hil⟩ : ∃ x, x = Jtm.inLoop L61_1 := ⟨_, rfl⟩; rw [li_eq' il hil]
    simp -implicitDefEqProofs (disch := first | omega | with_unfolding_all exact eqR (Eq.refl _)) [nums, -getElem!_pos, -Int.natCast_add, -Int.natCast_mul, -Int.natCast_ediv, L61_1, h0, h3, h5, h6, hln]
    subst hil
    try simp -implicitDefEqProofs (disch := first | omega | with_unfolding_all exact eqR (Eq.refl _)) [nums, -getElem!_pos, -Int.natCast_add, -Int.natCast_mul, -Int.natCast_ediv]
    refine hQ _ _ w ?_ (by simpa using ha) ho <;> simp [h5]
  | succ m ih =>
    intro j σ H w cur hm hj h0 h3 h5 h6 ha ho hlen hQ
    have hln := (hv.rd H).1
    have hjl : j < L.length := by omega
    obtain ⟨p, e1, e2⟩ := ml_at hv H hjl
    have hnx := ho.next
    have o3 : H.obj b = .cells t.cells none := by rw [ho.obj b hb3]; exact hob
    have hwA : Ow H0 ((H.new (.cells Mo.zero.cells none)).set H.next (.cells (colonM t L[j]).cells none)) := (ho.new _).set _ hnx hb
    have aA : Acc tM H0 ((H.new (.cells Mo.zero.cells none)).set H.next (.cells (colonM t L[j]).cells none)) w cur := ha.other (by show H.next ≤ H.next + 1; omega) fun i h1 h2 => by simp only [Heap.new, Heap.set, upd]; rw [if_neg (by omega), if_neg (by omega)]
    obtain ⟨w', H', e3, ha', ho'⟩ := aA.app (m := [colonM t L[j]]) (bs := 64) (ex := true) (n := 1) hwA hb (by simp) rfl (by simp; omega)
    rw [show tM.e = 8 from rfl, ← row_one] at e3
    have hm2 : cur ++ (L.drop j).map (colonM t) = (cur ++ [colonM t L[j]]) ++ (L.drop (j + 1)).map (colonM t) := by rw [List.drop_eq_getElem_cons hjl, List.map_cons, List.append_assoc, List.singleton_append]
    rw [hm2] at hQ
    obtain ⟨il, hil⟩ : ∃ x, x = Jtm.inLoop L61_1 := ⟨_, rfl⟩; rw [li_eq' il hil]
    simp -implicitDefEqProofs (disch := first | omega | with_unfolding_all exact eqR (Eq.refl _)) [nums, -getElem!_pos, -Int.natCast_add, -Int.natCast_mul, -Int.natCast_ediv, L61_1, S61_0, h0, h3, h5, h6, hln, e1, e2, o3, ldM, call_40', call_32', storeZ, bslR_mono, e3]
    subst hil
    try simp -implicitDefEqProofs (disch := first | omega | with_unfolding_all exact eqR (Eq.refl _)) [nums, -getElem!_pos, -Int.natCast_add, -Int.natCast_mul, -Int.natCast_ediv]
    refine ih (j + 1) _ H' w' _ (by omega) (by omega) ?_ ?_ ?_ ?_ ha' ho' (by simp; omega) hQ
    all_goals simp [h0, h3, h5, h6]
theorem call_61 {v0 : AV} {L : List Mo} {t : Mo} {H : Heap} (hv : ML tM v0 L) (hl : L.length < 2 ^ 20) : Res (callI tab 61 [v0, mono t] H) fun e H' => H' = H ∧ ∃ c, ML tM e c ∧ IsMin (L.map (colonM t)) c := by
  have hf := hv.frz
  refine .hide fun Q hQ => .enter tab_61 (by simp [AF61]) (.inr (by simp [hf])) ?_
  simp -implicitDefEqProofs (disch := first | omega | with_unfolding_all exact eqR (Eq.refl _)) [nums, -getElem!_pos, -Int.natCast_add, -Int.natCast_mul, -Int.natCast_ediv, AF61]
  refine l61_1 hv hl (t := t) (b := H.next) (H0 := H.begin.new (.cells t.cells none)) (by show H.next ≤ H.next + 1; omega) (by show H.next < H.next + 1; omega) (by simp [Heap.new, upd]) _ 0 _ _ (.vec 0 true []) [] rfl (by omega) ?_ ?_ ?_ ?_ .vec (.refl _) (by simp) fun σ' H' w' q5 ha ho => ?_
  any_goals (first | (simp; done) | skip)
  simp -implicitDefEqProofs (disch := first | omega | with_unfolding_all exact eqR (Eq.refl _)) [nums, -getElem!_pos, -Int.natCast_add, -Int.natCast_mul, -Int.natCast_ediv, S61_2, q5]
  refine .call (call_55L ha ho (by show H.next ≤ H.next + 1; omega) (by simp; omega)) fun e H2 ⟨ho2, r, hr, hmin⟩ => ?_
  have hf := hr.frz
  have hnn := hr.nonew H.next 3
  have hws : H2.ws = [] := ho2.ws
  simp -implicitDefEqProofs (disch := first | omega | with_unfolding_all exact eqR (Eq.refl _)) [nums, -getElem!_pos, -Int.natCast_add, -Int.natCast_mul, -Int.natCast_ediv, hf, hnn, wrap_quiet hws hnn]
  exact .mk (hQ _ _ ⟨rfl, r, hr, by simpa using hmin⟩)
theorem or_byte {a b : Nat} (ha : a < 256) (hb : b < 256) : orK .u8 (a : Int) (b : Int) = ((a ||| b : Nat) : Int) := by
  have e : (BitVec.ofInt IntKind.u8.bits (a : Int) ||| BitVec.ofInt IntKind.u8.bits (b : Int)).toNat = a ||| b := by
    rw [BitVec.toNat_or, BitVec.ofInt_natCast, BitVec.ofInt_natCast, BitVec.toNat_ofNat, BitVec.toNat_ofNat]
    show a % 2 ^ 8 ||| b % 2 ^ 8 = a ||| b
    rw [Nat.mod_eq_of_lt (show a < 2 ^ 8 by omega), Nat.mod_eq_of_lt (show b < 2 ^ 8 by omega)]
  unfold orK
  rw [e]
  have hlt : a ||| b < 2 ^ 8 := Nat.or_lt_two_pow (by omega) (by omega)
  exact wrap_byte (by omega) (by omega)
theorem l16_1 {vc : AV} {c : List Mo} (hv : ML tM vc c) (hl : c.length < 2 ^ 20) {H : Heap} {x3 x4 x5 x7 x8 x9 : AV} : ∀ (m j : Nat) (σ : Sig) (f : Bool) (a : Nat), c.length - j = m → j ≤ c.length → σ 3 = x3 → σ 4 = x4 → σ 5 = x5 → σ 7 = x7 → σ 8 = x8 → σ 9 = x9 → σ 10 = vc → σ 11 = .int .u8 (a : Nat) → σ 12 = .bool f → σ 13 = .int .i64 (j : Nat) → a < 256 →
    (∀ σ', σ' 3 = x3 → σ' 4 = x4 → σ' 5 = x5 → σ' 7 = x7 → σ' 8 = x8 → σ' 9 = x9 → σ' 11 = .int .u8 ((c.drop j).foldl (fun a x => a ||| supN x) a : Nat) → σ' 12 = .bool (f && (c.drop j).all fun x => x.deg == 1) → Res (ai (callI tab) s k .nrm σ' H) Q) →
    Res (li (callI tab) L16_1 (.inBlock 2 :: s) k σ H) Q := by
  intro m
  have hln := (hv.rd H).1
  induction m with
  | zero =>
    intro j σ f a hm hj h3 h4 h5 h7 h8 h9 h10 h11 h12 h13 ha hQ
    rw [List.drop_of_length_le (by omega)] at hQ
    obtain ⟨il, hil⟩ : ∃ x, x = Jtm.inLoop L16_1 := ⟨_, rfl⟩; rw [li_eq' il hil]
    simp -implicitDefEqProofs (disch := first | omega | with_unfolding_all exact eqR (Eq.refl _)) [nums, -getElem!_pos, -Int.natCast_add, -Int.natCast_mul, -Int.natCast_ediv, L16_1, h3, h4, h5, h7, h8, h9, h10, h11, h12, h13, hln]
    subst hil
    try simp -implicitDefEqProofs (disch := first | omega | with_unfolding_all exact eqR (Eq.refl _)) [nums, -getElem!_pos, -Int.natCast_add, -Int.natCast_mul, -Int.natCast_ediv]
    refine hQ _ ?_ ?_ ?_ ?_ ?_ ?_ ?_ ?_ <;> simp [h3, h4, h5, h7, h8, h9, h11, h12]
  | succ m ih =>
    intro j σ f a hm hj h3 h4 h5 h7 h8 h9 h10 h11 h12 h13 ha hQ
    have hjl : j < c.length := by omega
    obtain ⟨p, e1, e2⟩ := ml_at hv H hjl
    have hor := or_byte ha (supN_lt c[j])
    have hlt : a ||| supN c[j] < 256 := Nat.or_lt_two_pow (n := 8) ha (supN_lt _)
    rw [List.drop_eq_getElem_cons hjl, List.foldl_cons, List.all_cons, ← Bool.and_assoc] at hQ
    generalize hor2 : a ||| supN c[j] = a2 at *
    cases f with
    | true =>
      rw [Bool.true_and] at hQ
      obtain ⟨il, hil⟩ : ∃ x, x = Jtm.inLoop L16_1 := ⟨_, rfl⟩; rw [li_eq' il hil]
      simp -implicitDefEqProofs (disch := first | omega | with_unfolding_all exact eqR (Eq.refl _)) [nums, -getElem!_pos, -Int.natCast_add, -Int.natCast_mul, -Int.natCast_ediv, L16_1, S16_0, h3, h4, h5, h7, h8, h9, h10, h11, h12, h13, hln, e1, e2, call_42', call_44', hor]
      subst hil
      try simp -implicitDefEqProofs (disch := first | omega | with_unfolding_all exact eqR (Eq.refl _)) [nums, -getElem!_pos, -Int.natCast_add, -Int.natCast_mul, -Int.natCast_ediv]
      refine ih (j + 1) _ _ a2 (by omega) (by omega) ?_ ?_ ?_ ?_ ?_ ?_ ?_ ?_ ?_ ?_ hlt hQ
      all_goals simp [h3, h4, h5, h7, h8, h9, h10]
    | false =>
      rw [Bool.false_and] at hQ
      obtain ⟨il, hil⟩ : ∃ x, x = Jtm.inLoop L16_1 := ⟨_, rfl⟩; rw [li_eq' il hil]
      simp -implicitDefEqProofs (disch := first | omega | with_unfolding_all exact eqR (Eq.refl _)) [nums, -getElem!_pos, -Int.natCast_add, -Int.natCast_mul, -Int.natCast_ediv, L16_1, S16_0, h3, h4, h5, h7, h8, h9, h10, h11, h12, h13, hln, e1, e2, call_42', call_44', hor]
      subst hil
      try simp -implicitDefEqProofs (disch := first | omega | with_unfolding_all exact eqR (Eq.refl _)) [nums, -getElem!_pos, -Int.natCast_add, -Int.natCast_mul, -Int.natCast_ediv]
      refine ih (j + 1) _ false a2 (by omega) (by omega) ?_ ?_ ?_ ?_ ?_ ?_ ?_ ?_ ?_ ?_ hlt hQ
      all_goals simp [h3, h4, h5, h7, h8, h9, h10]
def falsL : List AV := List.replicate 256 (.bool false)
def flB (F : Nat → Bool) : List AV := (List.range 256).map fun s => AV.bool (F s)
theorem flB_len {F : Nat → Bool} : (flB F).length = 256 := by simp [flB]
theorem flB_at {F : Nat → Bool} {i : Nat} (h : i < 256) : part false 1 (flB F) i = some (.bool (F i)) := by
  rw [part_false, flB, List.getElem?_map, List.getElem?_range h]; rfl
theorem flB_put {H : Heap} {F : Nat → Bool} {b i : Nat} {x : Bool} {rel : Option Nat} (h : i < 256) : stO H 1 b i (.cells (flB F) rel) (some [.bool x]) = some ((H.kill rel).set b (.cells (flB (upd F i x)) none)) := by
  rw [stO_some, if_pos ⟨rfl, by rw [flB_len]; omega⟩]
  have e : put (flB F) i [.bool x] = flB (upd F i x) := by
    show (flB F).set i (.bool x) = _
    unfold flB
    apply List.ext_getElem?
    intro j
    rw [List.getElem?_set, List.length_map, List.length_range, List.getElem?_map, List.getElem?_map]
    by_cases hj : i = j
    · subst hj
      rw [if_pos rfl, if_pos h, List.getElem?_range h]; simp [upd]
    · rw [if_neg hj]
      by_cases h2 : j < 256
      · rw [List.getElem?_range h2]; simp only [Option.map_some, upd]; rw [if_neg (fun e => hj e.symm)]
      · rw [List.getElem?_eq_none (by simp; omega)]; rfl
  rw [e]
theorem falsL_eq : falsL = flB fun _ => false := by unfold flB falsL; rw [List.map_const', List.length_range]
theorem put_all : ∀ (cs xs p : List AV), cs.length = xs.length → put (p ++ cs) p.length xs = p ++ xs := fun cs xs p h => by
  have := put_at p cs [] xs h
  rwa [List.append_nil, List.append_nil] at this
theorem sto_all {H : Heap} {F G : Nat → Bool} {b : Nat} {rel : Option Nat} : stO H 256 b 0 (.cells (flB F) rel) (some (flB G)) = some ((H.kill rel).set b (.cells (flB G) none)) := by
  rw [stO_some, if_pos ⟨flB_len, by rw [flB_len]; omega⟩]
  have := put_all (flB F) (flB G) [] (by rw [flB_len, flB_len])
  simp only [List.nil_append, List.length_nil] at this
  rw [this]
theorem S16_12_eq : S16_12 = .seq (.ops [A0 30 (.build (flB fun _ => false) []), A0 7 (.alloc (flB fun _ => false)), A6 (.store 256 (.t 7) (.t 30))]) (.seq (.ops [A0 31 (.load .true 2 (.t 1)), A0 32 (.call (.c (.fn 24 [] [])) [(.t 31)]), A0 33 (.call (.c (.fn 56 [] [])) [(.t 32)]), M0 8 33]) (.seq (.seq (.ops [A0 9 (.mv (ci 0))]) (.block 0 (.loop L16_5))) S16_11)) := by
  rw [← falsL_eq]; rfl
theorem fill_flB {F : Nat → Bool} : fillA (flB F) [] = some (flB F) := rfl
theorem take_any_succ {T : List Mo} {j : Nat} (hj : j < T.length) {p : Mo → Prop} : (∃ t ∈ T.take (j + 1), p t) ↔ (∃ t ∈ T.take j, p t) ∨ p T[j] := by
  rw [List.take_succ_eq_append_getElem hj]
  constructor
  · rintro ⟨t, ht, h⟩
    rcases List.mem_append.1 ht with h2 | h2
    · exact .inl ⟨t, h2, h⟩
    · rw [List.mem_singleton] at h2; subst h2; exact .inr h
  · rintro (⟨t, ht, h⟩ | h)
    · exact ⟨t, List.mem_append_left _ ht, h⟩
    · exact ⟨_, List.mem_append_right _ (by simp), h⟩
theorem l16_5 {n : Nat} {vL vT x3 x5 : AV} {L T : List Mo} (hvL : ML tM vL L) (hvT : ML tM vT T) (hL : ∀ m ∈ L, Box n m) (lL : L.length < 2 ^ 20) (lT : T.length < 2 ^ 20) (hT : ∀ t ∈ T, Small t) {H0 : Heap} (hb : H0.base ≤ H0.next) {b7 : Nat} (h7 : H0.next ≤ b7) : ∀ (m j : Nat) (σ : Sig) (H : Heap) (F : Nat → Bool), T.length - j = m → j ≤ T.length → σ 3 = x3 → σ 4 = vL → σ 5 = x5 → σ 7 = .ptr b7 0 → σ 8 = vT → σ 9 = .int .i64 (j : Nat) → Ow H0 H → b7 < H.next → H.obj b7 = .cells (flB F) none → (∀ s, s < 256 → (F s = true ↔ ∃ t ∈ T.take j, PrT L t s)) →
    (∀ σ' H' F', σ' 3 = x3 → σ' 5 = x5 → σ' 7 = .ptr b7 0 → Ow H0 H' → H'.obj b7 = .cells (flB F') none → (∀ s, s < 256 → (F' s = true ↔ ∃ t ∈ T, PrT L t s)) → Res (ai (callI tab) s k .nrm σ' H') Q) →
    Res (li (callI tab) L16_5 (.inBlock 0 :: s) k σ H) Q := by
  intro m
  induction m with
  | zero =>
    intro j σ H F hm hj h3 h4 h5 e7 h8 h9 ho n7 o7 hF hQ
    have hln := (hvT.rd H).1
    rw [List.take_of_length_le (by omega)] at hF
    obtain ⟨il, hil⟩ : ∃ x, x = Jtm.inLoop L16_5 := ⟨_, rfl⟩; rw [li_eq' il hil]
    simp -implicitDefEqProofs (disch := first | omega | with_unfolding_all exact eqR (Eq.refl _)) [nums, -getElem!_pos, -Int.natCast_add, -Int.natCast_mul, -Int.natCast_ediv, L16_5, h3, h4, h5, e7, h8, h9, hln]
    subst hil
    try simp -implicitDefEqProofs (disch := first | omega | with_unfolding_all exact eqR (Eq.refl _)) [nums, -getElem!_pos, -Int.natCast_add, -Int.natCast_mul, -Int.natCast_ediv]
    refine hQ _ _ F ?_ ?_ ?_ ho o7 hF <;> simp [h3, h5, e7]
  | succ m ih =>
    intro j σ H F hm hj h3 h4 h5 e7 h8 h9 ho n7 o7 hF hQ
    have hln := (hvT.rd H).1
    have hjl : j < T.length := by omega
    obtain ⟨p, e1, e2⟩ := ml_at hvT H hjl
    have hsm := hT _ (List.getElem_mem hjl)
    obtain ⟨il, hil⟩ : ∃ x, x = Jtm.inLoop L16_5 := ⟨_, rfl⟩; rw [li_eq' il hil]
    simp -implicitDefEqProofs (disch := first | omega | with_unfolding_all exact eqR (Eq.refl _)) [nums, -getElem!_pos, -Int.natCast_add, -Int.natCast_mul, -Int.natCast_ediv, L16_5, S16_4, h3, h4, h5, e7, h8, h9, hln, e1, e2]
    refine .call (call_61 (t := T[j]) hvL lL) fun e H2 ⟨hH, c, hc, hmin⟩ => ?_
    subst hH
    have hcl : c.length < 2 ^ 20 := by have := hmin.len; rw [List.length_map] at this; omega
    have hcp := fun s (hs : s < 256) => colon_prime (s := s) hL hsm hmin hs
    have hor8 : orL c < 256 := orL_lt c 0 (by omega)
    simp -implicitDefEqProofs (disch := first | omega | with_unfolding_all exact eqR (Eq.refl _)) [nums, -getElem!_pos, -Int.natCast_add, -Int.natCast_mul, -Int.natCast_ediv, h3, h4, h5, e7, h8, h9]
    refine l16_1 hc hcl (x3 := x3) (x4 := vL) (x5 := x5) (x7 := .ptr b7 0) (x8 := vT) (x9 := .int .i64 (j : Nat)) _ 0 _ true 0 rfl (by omega) ?_ ?_ ?_ ?_ ?_ ?_ ?_ ?_ ?_ ?_ (by omega) fun σ1 g3 g4 g5 g7 g8 g9 g11 g12 => ?_
    any_goals (first | (simp [h3, h4, h5, e7, h8, h9]; done) | skip)
    rw [List.drop_zero, Bool.true_and] at g12
    rw [List.drop_zero, show c.foldl (fun a x => a ||| supN x) 0 = orL c from rfl] at g11
    cases hall : c.all fun x => x.deg == 1 with
    | true =>
      rw [hall] at g12
      have hall' : ∀ x ∈ c, x.deg = 1 := fun x hx => by have := List.all_eq_true.1 hall x hx; simpa using this
      have i7 : iaddrA (some 256) 1 (.ptr b7 0) (.int .u8 (orL c : Nat)) = some (.ptr b7 (orL c)) := by
        have := iaddr_arr (n := 256) (e := 1) (id := b7) (off := 0) (k := .u8) hor8
        simpa using this
      simp -implicitDefEqProofs (disch := first | omega | with_unfolding_all exact eqR (Eq.refl _)) [nums, -getElem!_pos, -Int.natCast_add, -Int.natCast_mul, -Int.natCast_ediv, S16_2, S16_3, g3, g4, g5, g7, g8, g9, g11, g12, i7, o7, flB_put hor8]
      subst hil
      try simp -implicitDefEqProofs (disch := first | omega | with_unfolding_all exact eqR (Eq.refl _)) [nums, -getElem!_pos, -Int.natCast_add, -Int.natCast_mul, -Int.natCast_ediv]
      refine ih (j + 1) _ _ (upd F (orL c) true) (by omega) (by omega) ?_ ?_ ?_ ?_ ?_ ?_ (ho.set _ h7 hb) n7 (by simp [Heap.set, upd]) (fun s hs => ?_) hQ
      any_goals (first | (simp [g3, g4, g5, g7, g8]; done) | skip)
      rw [take_any_succ hjl, ← hcp s hs]
      by_cases he : s = orL c
      · subst he; simp [upd]; exact .inr hall'
      · simp only [upd]
        rw [if_neg he, hF s hs]
        exact ⟨.inl, fun h => h.elim id fun h => absurd h.2.symm he⟩
    | false =>
      rw [hall] at g12
      simp -implicitDefEqProofs (disch := first | omega | with_unfolding_all exact eqR (Eq.refl _)) [nums, -getElem!_pos, -Int.natCast_add, -Int.natCast_mul, -Int.natCast_ediv, S16_2, S16_3, g3, g4, g5, g7, g8, g9, g11, g12]
      subst hil
      try simp -implicitDefEqProofs (disch := first | omega | with_unfolding_all exact eqR (Eq.refl _)) [nums, -getElem!_pos, -Int.natCast_add, -Int.natCast_mul, -Int.natCast_ediv]
      refine ih (j + 1) _ _ F (by omega) (by omega) ?_ ?_ ?_ ?_ ?_ ?_ ho n7 o7 (fun s hs => ?_) hQ
      any_goals (first | (simp [g3, g4, g5, g7, g8]; done) | skip)
      rw [take_any_succ hjl, ← hcp s hs, hF s hs]
      refine ⟨.inl, fun h => h.elim id fun h => ?_⟩
      have : (c.all fun x => x.deg == 1) = true := List.all_eq_true.2 fun x hx => by simpa using h.1 x hx
      rw [hall] at this; cases this
theorem l16_9 {vS x3 : AV} {S : List Int} (hv : ML tB vS S) {F : Nat → Bool} (hS : S = ((List.range 256).filter F).map fun s : Nat => ((s : Nat) : Int)) {b7 : Nat} {H : Heap} (o7 : H.obj b7 = .cells (flB F) none) : ∀ (m j : Nat) (σ : Sig), 256 - j = m → j ≤ 256 → σ 3 = x3 → σ 5 = vS → σ 7 = .ptr b7 0 → σ 14 = .int .i64 (((List.range j).filter F).length : Nat) → σ 15 = .int .i64 (j : Nat) →
    (∀ σ', σ' 3 = x3 → σ' 5 = vS → σ' 14 = .int .i64 (S.length : Nat) → Res (ai (callI tab) s k .nrm σ' H) Q) →
    Res (li (callI tab) L16_9 (.inBlock 4 :: s) k σ H) Q := by
  intro m
  have hln := (hv.rd H).1
  have hSl : S.length ≤ 256 := by rw [hS, List.length_map]; have := List.length_filter_le F (List.range 256); simpa using this
  induction m with
  | zero =>
    intro j σ hm hj h3 h5 h7 h14 h15 hQ
    have : j = 256 := by omega
    subst this
    have hl : ((List.range 256).filter F).length = S.length := by rw [hS, List.length_map]
    rw [hl] at h14
    obtain ⟨il, hil⟩ : ∃ x, x = Jtm.inLoop L16_9 := ⟨_, rfl⟩; rw [li_eq' il hil]
    simp -implicitDefEqProofs (disch := first | omega | with_unfolding_all exact eqR (Eq.refl _)) [nums, -getElem!_pos, -Int.natCast_add, -Int.natCast_mul, -Int.natCast_ediv, L16_9, h3, h5, h7, h14, h15]
    subst hil
    try simp -implicitDefEqProofs (disch := first | omega | with_unfolding_all exact eqR (Eq.refl _)) [nums, -getElem!_pos, -Int.natCast_add, -Int.natCast_mul, -Int.natCast_ediv]
    refine hQ _ ?_ ?_ ?_ <;> simp [h3, h5, h14]
  | succ m ih =>
    intro j σ hm hj h3 h5 h7 h14 h15 hQ
    have hjl : j < 256 := by omega
    have c256 : ((j : Nat) : Int) < 256 := by omega
    have i7 : iaddrA (some 256) 1 (.ptr b7 0) (.int .i64 (j : Nat)) = some (.ptr b7 j) := by
      have := iaddr_arr (n := 256) (e := 1) (id := b7) (off := 0) (k := .i64) hjl
      simpa using this
    have hfs := filter_succ (p := F) (S := List.range 256) (i := j) (by simpa using hjl)
    rw [List.take_range, List.take_range, show min (j + 1) 256 = j + 1 by omega, show min j 256 = j by omega, List.getElem_range] at hfs
    cases hFj : F j with
    | true =>
      rw [hFj, if_pos rfl] at hfs
      have hfa := filter_at (p := F) (S := List.range 256) (i := j) (by simpa using hjl) (by rw [List.getElem_range]; exact hFj)
      rw [List.take_range, show min j 256 = j by omega, List.getElem_range] at hfa
      obtain ⟨hlt, hge⟩ := List.getElem?_eq_some_iff.1 hfa
      have hlt' : ((List.range j).filter F).length < S.length := by rw [hS, List.length_map]; exact hlt
      have hgS : S[((List.range j).filter F).length] = ((j : Nat) : Int) := by
        have : S[((List.range j).filter F).length]? = some ((j : Nat) : Int) := by rw [hS, List.getElem?_map, hfa]; rfl
        obtain ⟨h1, h2⟩ := List.getElem?_eq_some_iff.1 this
        exact h2
      obtain ⟨p, e1, e2⟩ := mb_at hv H hlt'
      rw [hgS] at e2
      have hlen : ((List.range (j + 1)).filter F).length = ((List.range j).filter F).length + 1 := by rw [hfs, List.length_append]; rfl
      obtain ⟨c, hcd⟩ : ∃ c, c = ((List.range j).filter F).length := ⟨_, rfl⟩
      rw [← hcd] at h14 e1 hlen hlt'
      have hw : IntKind.i64.wrap ((j : Nat) : Int) = (j : Nat) := wrap_nat (by omega)
      obtain ⟨il, hil⟩ : ∃ x, x = Jtm.inLoop L16_9 := ⟨_, rfl⟩; rw [li_eq' il hil]
      simp -implicitDefEqProofs (disch := first | omega | with_unfolding_all exact eqR (Eq.refl _)) [nums, -getElem!_pos, -Int.natCast_add, -Int.natCast_mul, -Int.natCast_ediv, L16_9, S16_8, h3, h5, h7, h14, h15, c256, i7, o7, flB_at hjl, hFj, hln, e1, e2, hw, S16_6, S16_7]
      subst hil
      try simp -implicitDefEqProofs (disch := first | omega | with_unfolding_all exact eqR (Eq.refl _)) [nums, -getElem!_pos, -Int.natCast_add, -Int.natCast_mul, -Int.natCast_ediv]
      refine ih (j + 1) _ (by omega) (by omega) ?_ ?_ ?_ (by simp [hlen]) ?_ hQ
      all_goals simp [h3, h5, h7]
    | false =>
      rw [hFj] at hfs
      simp only [Bool.false_eq_true, if_false, List.append_nil] at hfs
      obtain ⟨il, hil⟩ : ∃ x, x = Jtm.inLoop L16_9 := ⟨_, rfl⟩; rw [li_eq' il hil]
      simp -implicitDefEqProofs (disch := first | omega | with_unfolding_all exact eqR (Eq.refl _)) [nums, -getElem!_pos, -Int.natCast_add, -Int.natCast_mul, -Int.natCast_ediv, L16_9, S16_8, h3, h5, h7, h14, h15, c256, i7, o7, flB_at hjl, hFj, S16_7]
      subst hil
      try simp -implicitDefEqProofs (disch := first | omega | with_unfolding_all exact eqR (Eq.refl _)) [nums, -getElem!_pos, -Int.natCast_add, -Int.natCast_mul, -Int.natCast_ediv]
      refine ih (j + 1) _ (by omega) (by omega) ?_ ?_ ?_ (by simp [hfs, h14]) ?_ hQ
      all_goals simp [h3, h5, h7]
theorem law16 {v : AV} {l : List Mo} {n : Nat} (hv : ML tQ v l) (hn : n < 256) (hby : ∀ m ∈ l, Bytes m) (hll : l.length < 2 ^ 63) : Res (callI tab 16 [inp v n] Heap.empty) fun e _ => e = .bool true := by
  have hf := inp_flat (n := n) hv
  have hz : frz 0 6 Heap.empty (inp v n) = some (inp v n, Heap.empty) := inp_frz (n := n) hv 0 4 Heap.empty
  refine .hide fun Q hQ => .enter tab_16 (by simp [AF16]) (.inr (by simp [hz])) ?_
  have hs : callI tab 18 [] (Heap.empty.begin.new (.cells [v, .int .u8 n] none)) = some (.bool true, Heap.empty.begin.new (.cells [v, .int .u8 n] none)) := callI_of (san21_1 _)
  have hin : AV.agg [v, .int .u8 n] = inp v n := rfl
  have c24 := fun H => call_24 hv hn (H := H)
  have hc5 : n % 5 ≤ 4 := by omega
  generalize hc : n % 5 = c at *
  simp -implicitDefEqProofs (disch := first | omega | with_unfolding_all exact eqR (Eq.refl _)) [nums, -getElem!_pos, -Int.natCast_add, -Int.natCast_mul, -Int.natCast_ediv, AF16, hf, hs, S16_13, ld20, hin]
  refine .call (call_23 hv hn hby hll) fun e H1 ⟨hH, L, hL, l1, bL⟩ => ?_
  subst hH
  rw [hc] at bL
  have hB := good_len hc5 bL
  have h19 : ∀ H, Res (callI tab 19 [e, .int .i64 (c : Nat)] H) fun e H' => H' = H ∧ ∃ w P, e = .tup [w, .int .i64 0] ∧ ML tM w P ∧ Irr L P := fun H => call_19 (n := c) hL (by omega) (fun m hm => ⟨(bL m hm).valid, fun q _ h => by rw [(bL m hm q).2.2 h]; omega⟩) (by omega) hB
  have hX : ∀ P, Irr L P → P.length ≤ 1000 := fun P h => hB P h.good
  simp -implicitDefEqProofs (disch := first | omega | with_unfolding_all exact eqR (Eq.refl _)) [nums, -getElem!_pos, -Int.natCast_add, -Int.natCast_mul, -Int.natCast_ediv, ld20, hin, c24]
  refine .call (call_20 hL h19 hX) fun e2 H2 ⟨hH, P, S, w, hirr, he, hmw, hsets⟩ => ?_
  subst hH he
  simp -implicitDefEqProofs (disch := first | omega | with_unfolding_all exact eqR (Eq.refl _)) [nums, -getElem!_pos, -Int.natCast_add, -Int.natCast_mul, -Int.natCast_ediv]
  simp only [S16_12_eq]
  generalize hfl : (flB fun _ => false) = fl0
  have hfill : fillA fl0 [] = some fl0 := by rw [← hfl]; exact fill_flB
  have hsto : ∀ (H : Heap) (b : Nat), stO H 256 b 0 (.cells fl0 none) (some fl0) = some (H.set b (.cells fl0 none)) := fun H b => by rw [← hfl]; exact sto_all (rel := none)
  simp -implicitDefEqProofs (disch := first | omega | with_unfolding_all exact eqR (Eq.refl _)) [nums, -getElem!_pos, -Int.natCast_add, -Int.natCast_mul, -Int.natCast_ediv, hfill, hsto, ld20, hin, c24]
  refine .call (call_56 (n := c) (by omega)) fun e7 H7 ⟨hH, hT⟩ => ?_
  subst hH
  have lT : (allV c).length < 2 ^ 20 := by
    have : 5 ^ c ≤ 5 ^ 4 := Nat.pow_le_pow_right (by omega) (by omega)
    rw [allV_len]; omega
  simp -implicitDefEqProofs (disch := first | omega | with_unfolding_all exact eqR (Eq.refl _)) [nums, -getElem!_pos, -Int.natCast_add, -Int.natCast_mul, -Int.natCast_ediv]
  refine l16_5 (n := c) hL hT bL (by omega) lT (fun t ht q => by have := allV_get c (by omega) t ht q; omega) (H0 := Heap.empty.begin.new (.cells [v, .int .u8 n] none)) (by show 0 ≤ _; omega) (b7 := 1) (by show 1 ≤ 1; omega) (x3 := .bool true) (x5 := w) _ 0 _ _ (fun _ => false) rfl (by omega) ?_ ?_ ?_ ?_ ?_ ?_ (Ow.set (Ow.new (.refl _) _) _ (by show 1 ≤ 1; omega) (by show 0 ≤ _; omega)) (by show 1 < 2; omega) (by rw [hfl]; simp [Heap.set, upd]) (fun s _ => by simp) fun σ1 H1 F g3 g5 g7 go o7 hF => ?_
  any_goals (first | (simp; done) | skip)
  have hS := asc_range (F := F) hsets.asc (fun s h => hsets.nat h) (fun s hs => (hF s hs).trans (prime_iff (by omega) bL hirr hsets hs))
  have hSl : S.length ≤ 256 := by rw [hS, List.length_map]; have := List.length_filter_le F (List.range 256); simpa using this
  have hlw := fun H => (hmw.rd H).1
  simp -implicitDefEqProofs (disch := first | omega | with_unfolding_all exact eqR (Eq.refl _)) [nums, -getElem!_pos, -Int.natCast_add, -Int.natCast_mul, -Int.natCast_ediv, S16_11, g3, g5, g7]
  refine l16_9 hmw hS o7 (x3 := .bool true) _ 0 _ rfl (by omega) ?_ ?_ ?_ ?_ ?_ fun σ2 q3 q5 q14 => ?_
  any_goals (first | (simp [g3, g5, g7]; done) | skip)
  have hws : H1.ws = [] := go.ws
  have hq : (AV.bool true).noNew Heap.empty.next 4 = true := rfl
  simp -implicitDefEqProofs (disch := first | omega | with_unfolding_all exact eqR (Eq.refl _)) [nums, -getElem!_pos, -Int.natCast_add, -Int.natCast_mul, -Int.natCast_ediv, S16_10, q3, q5, q14, hlw, wrap_quiet hws hq]
  exact .mk (hQ _ _ rfl)
end
end Go.Mach.Ytl
