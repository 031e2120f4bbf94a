/-
  Pruned copy of the text Sa Sb. By an AI agent.
-/
import Derived.Test.YtlbihaiejbpjoaaGreatZ10Rd
set_option linter.unusedSimpArgs false
set_option linter.unusedVariables false
set_option maxRecDepth 100000
namespace Go.Mach.Ytl
open Go.Mach
structure LV where
  v : AV
  l : List Mo
  h : ML tM v l
theorem ml_pure {α : Type} {t : Ty α} {v : AV} {l : List α} (h : ML t v l) : v.pure = true := by
  rcases h with ⟨h, _⟩ | ⟨ex, h⟩ <;> rw [h] <;> rfl
theorem ml_cell {α : Type} {t : Ty α} {v : AV} {l : List α} (h : ML t v l) : v.isCell = true := by
  rcases h with ⟨h, _⟩ | ⟨ex, h⟩ <;> rw [h] <;> rfl
def tL : Ty LV where
  e := 1
  agg := false
  val x := x.v
  cells x := [x.v]
  len _ := rfl
  pos := by decide
  flat x := x.h.flat
  one a p q := by simp [part]
  nn a b n := by simp [a.h.nonew b n]
  pure a := by simp [ml_pure a.h]
  cell a := by simp [ml_cell a.h]
theorem bslR_lv {H : Heap} {e : AV} {l : List Mo} (h : ML tM e l) : bslR H 1 1 (fillA [.nils] [(0, 1, e)]) = some (.vec 1 true [e], H) := by
  have h1 := h.flat
  have h2 := ml_pure h
  simp [fillA, h1, put, bslR, h2]
theorem bslR_u8 {H : Heap} {n : Int} : bslR H 1 1 (fillA [.int .u8 0] [(0, 1, .int .u8 n)]) = some (.vec 1 true [.int .u8 n], H) := rfl
def lkA (st : Bool) (H : Heap) (z : AV) (o : Bool) (m q : AV) : Option AV := pureA (fun x => match x with | .t 0 => m | _ => q) H (.lkp st z o (.t 0) (.t 1))
theorem pureA_lkp {f : AOpd → AV} {H : Heap} {st : Bool} {z : AV} {o : Bool} {m q : AOpd} : pureA f H (.lkp st z o m q) = lkA st H z o (f m) (f q) := rfl
def mpA (st : Bool) (H : Heap) (m q v : AV) : R := heapA (fun x => match x with | .t 0 => m | .t 1 => q | _ => v) H (.mpu st (.t 0) (.t 1) (.t 2))
theorem heapA_mpu {f : AOpd → AV} {H : Heap} {st : Bool} {m q v : AOpd} : heapA f H (.mpu st m q v) = mpA st H (f m) (f q) (f v) := rfl
theorem heapA_mkm {f : AOpd → AV} {H : Heap} : heapA f H (.mkm none) = some (.mp H.next, H.new (.map [])) := rfl
theorem lkA_some {H : Heap} {id : Nat} {es : List (AV × AV)} {z : AV} {s : Int} {r : Option AV} (ho : H.obj id = .map es) (hf : findA (.int .u8 s) es = some r) : lkA false H z false (.mp id) (.int .u8 s) = some (r.getD z) := by
  simp only [lkA, pureA, isKey, ho, hf]
  cases r <;> simp
theorem mpA_some {H : Heap} {id : Nat} {es es' : List (AV × AV)} {s : Int} {v : AV} (ho : H.obj id = .map es) (hp : putA (.int .u8 s) v es = some es') : mpA false H (.mp id) (.int .u8 s) v = some (undefA, H.set id (.map es')) := by
  simp only [mpA, heapA, isKey, ho, hp]
  simp
def entr (ks : List Int) (val : Int → AV) : List (AV × AV) := ks.map fun s => (AV.int .u8 s, val s)
theorem find_entr {val : Int → AV} {s : Int} : ∀ ks : List Int, findA (.int .u8 s) (entr ks val) = some (if s ∈ ks then some (val s) else none)
  | [] => rfl
  | t :: ks => by
    simp only [entr, List.map_cons, findA, keyEq, if_true]
    by_cases h : s = t
    · subst h; simp
    · have h2 : (s == t) = false := by simpa using h
      rw [h2]
      simp only
      rw [show (List.map (fun s => (AV.int .u8 s, val s)) ks) = entr ks val from rfl, find_entr ks]
      simp [h]
def keyS (ks : List Int) (s : Int) : List Int := if s ∈ ks then ks else ks ++ [s]
theorem put_entr {val : Int → AV} {s : Int} {v : AV} : ∀ ks : List Int, ks.Nodup → putA (.int .u8 s) v (entr ks val) = some (entr (keyS ks s) fun t => if t = s then v else val t)
  | [], _ => by simp [entr, putA, keyS]
  | t :: ks, hn => by
    have hn' := List.nodup_cons.1 hn
    have ih := put_entr (val := val) (s := s) (v := v) ks hn'.2
    have he : ∀ {t : Int} {ks : List Int} {val : Int → AV}, entr (t :: ks) val = (.int .u8 t, val t) :: entr ks val := rfl
    rw [he]
    simp only [putA, keyEq, if_true]
    by_cases h : s = t
    · subst h
      have hk : keyS (s :: ks) s = s :: ks := by simp [keyS]
      rw [hk, he]
      simp only [beq_self_eq_true, if_true]
      congr 1
      congr 1
      refine List.map_congr_left fun x hx => ?_
      show (AV.int IntKind.u8 x, val x) = (AV.int IntKind.u8 x, if x = s then v else val x)
      rw [if_neg (fun e : x = s => hn'.1 (by rw [← e]; exact hx))]
    · have h2 : (s == t) = false := by simpa using h
      have hk : keyS (t :: ks) s = t :: keyS ks s := by simp only [keyS, List.mem_cons, h, false_or]; split <;> rfl
      rw [h2, ih, hk, he, if_neg (fun e => h e.symm)]
theorem keyS_nodup {ks : List Int} {s : Int} (h : ks.Nodup) : (keyS ks s).Nodup := by
  unfold keyS; split
  · exact h
  · rename_i hs
    rw [List.nodup_append]
    exact ⟨h, by simp, fun x hx y hy e => by rw [List.mem_singleton] at hy; subst hy e; exact hs hx⟩
theorem keyS_mem {ks : List Int} {s t : Int} : t ∈ keyS ks s ↔ t ∈ ks ∨ t = s := by
  unfold keyS; split
  · exact ⟨.inl, fun h => h.elim id fun e => by subst e; assumption⟩
  · simp
structure Grp (H0 H : Heap) (idm : Nat) (ks : List Int) (val : Int → AV) (ow : Nat → Option Int) (P : List Mo) : Prop where
  nodup : ks.Nodup
  mem : ∀ s, s ∈ ks ↔ ∃ a ∈ P, ((supN a : Nat) : Int) = s
  idlo : H0.next ≤ idm
  idlt : idm < H.next
  idow : ow idm = none
  obj : H.obj idm = .map (entr ks val)
  low : ∀ i, ow i ≠ none → H0.next ≤ i
  off : ∀ s, s ∉ ks → val s = .nils
  acc : ∀ s, 0 ≤ s → ∃ gs : List LV, AccP tL (fun i => ow i = some s) H (val s) gs ∧ gs.map LV.l = (P.filter fun a => decide (((supN a : Nat) : Int) = s)).map powL
theorem Grp.frame {H0 H H' : Heap} {idm : Nat} {ks : List Int} {val : Int → AV} {ow ow' : Nat → Option Int} {P : List Mo} (g : Grp H0 H idm ks val ow P) (hn : H.next ≤ H'.next) (hi : H'.obj idm = H.obj idm) (ho : ∀ i s, i < H.next → 0 ≤ s → ow i = some s → H'.obj i = H.obj i) (hw : ∀ i, i < H.next → ow' i = ow i) (hl : ∀ i, ow' i ≠ none → H0.next ≤ i) : Grp H0 H' idm ks val ow' P where
  nodup := g.nodup
  mem := g.mem
  idlo := g.idlo
  idlt := Nat.lt_of_lt_of_le g.idlt hn
  idow := by rw [hw _ g.idlt]; exact g.idow
  obj := hi.trans g.obj
  low := hl
  off := g.off
  acc s hs := by
    obtain ⟨gs, h1, h2⟩ := g.acc s hs
    exact ⟨gs, h1.frame hn (fun i k1 k2 => ho i s k2 hs k1) fun i k1 k2 => by rw [hw i k2]; exact k1, h2⟩
section
variable {s : List Jtm} {k : KF} {Q : AV → Heap → Prop}
attribute [local simp] guardI_u
attribute [local simp ↓ high] pureA_lkp heapA_mpu heapA_mkm
theorem Grp.isNil {H0 H : Heap} {idm : Nat} {ks : List Int} {val : Int → AV} {ow : Nat → Option Int} {P : List Mo} (g : Grp H0 H idm ks val ow P) {s : Int} (hs : 0 ≤ s) : eqNil 1 (val s) = some (!decide (s ∈ ks)) := by
  by_cases h : s ∈ ks
  · obtain ⟨gs, h1, h2⟩ := g.acc s hs
    obtain ⟨a, ha, e⟩ := (g.mem s).1 h
    have hne : gs ≠ [] := fun e2 => by
      subst e2
      have : a ∈ P.filter fun a => decide (((supN a : Nat) : Int) = s) := List.mem_filter.2 ⟨ha, by simpa using e⟩
      rw [List.map_nil, eq_comm, List.map_eq_nil_iff] at h2
      rw [h2] at this; cases this
    rw [decide_eq_true h]
    generalize val s = v at h1
    cases h1 with
    | nil => exact (hne rfl).elim
    | vec => exact (hne rfl).elim
    | live => rfl
  · rw [g.off s h, decide_eq_false h]; rfl
theorem Grp.look {H0 H : Heap} {idm : Nat} {ks : List Int} {val : Int → AV} {ow : Nat → Option Int} {P : List Mo} (g : Grp H0 H idm ks val ow P) {H' : Heap} (ho : H'.obj idm = H.obj idm) {s : Int} : lkA false H' .nils false (.mp idm) (.int .u8 s) = some (val s) := by
  rw [lkA_some (ho.trans g.obj) (find_entr ks)]
  by_cases h : s ∈ ks
  · rw [if_pos h]; rfl
  · rw [if_neg h, g.off s h]; rfl
theorem s72_0 {H0 : Heap} {idm b12 : Nat} {ks : List Int} {val : Int → AV} {ow : Nat → Option Int} {P : List Mo} {a : Mo} {w x8 x21 x22 x23 : AV} {sets : List Int} {σ : Sig} {H : Heap} (hb : H0.base ≤ H0.next) (g : Grp H0 H idm ks val ow P) (hs : AccP tB (fun i => ow i = some (-1)) H w sets) (ho : Ow H0 H) (h12 : H.obj b12 = .cells a.cells none) (hP : P.length < 2 ^ 20)
    (h8 : σ 8 = x8) (h9 : σ 9 = .mp idm) (h10 : σ 10 = w) (e12 : σ 12 = .ptr b12 0) (h13 : σ 13 = .int .u8 (supN a : Nat)) (h21 : σ 21 = x21) (h22 : σ 22 = x22) (h23 : σ 23 = x23)
    (hQ : ∀ σ' H' val' ow', σ' 8 = x8 → σ' 9 = .mp idm → σ' 10 = w → σ' 21 = x21 → σ' 22 = x22 → σ' 23 = x23 → Grp H0 H' idm (keyS ks (supN a : Nat)) val' ow' (P ++ [a]) → AccP tB (fun i => ow' i = some (-1)) H' w sets → Ow H0 H' → Res (ai (callI tab) s k .nrm σ' H') Q) :
    Res (gi (callI tab) S72_0 s k σ H) Q := by
  have s0 : (0 : Int) ≤ ((supN a : Nat) : Int) := by omega
  have hlk := g.look (H' := H) rfl (s := (supN a : Nat))
  have hnx := ho.next
  obtain ⟨gs, ha, hg⟩ := g.acc _ s0
  have hgl : gs.length ≤ P.length := by
    have := congrArg List.length hg
    rw [List.length_map, List.length_map] at this
    rw [this]; exact List.length_filter_le _ _
  simp -implicitDefEqProofs (disch := first | omega | with_unfolding_all exact eqR (Eq.refl _)) [nums, -getElem!_pos, -Int.natCast_add, -Int.natCast_mul, -Int.natCast_ediv, S72_0, h8, h9, h10, e12, h13, h21, h22, h23, hlk, h12, ldM]
  refine .call (call_67 (a := a)) fun e H2 ⟨hH, hml⟩ => ?_
  subst hH
  have ha2 : AccP tL (fun i => (upd ow H2.next (some ((supN a : Nat) : Int))) i = some ((supN a : Nat) : Int)) H2 (val (supN a : Nat)) gs := ha.frame (Nat.le_refl _) (fun _ _ _ => rfl) fun i h1 h2 => by simp only [upd]; rw [if_neg (by omega)]; exact h1
  obtain ⟨v', H3, e3, ha3, df⟩ := ha2.app (m := [⟨e, powL a, hml⟩]) (bs := 24) (ex := true) (n := 1) (by simp [upd]) (by simp) rfl (by simp; omega)
  have e3' : appA H2 1 24 (val (supN a : Nat)) (.vec 1 true [e]) = some (v', H3) := e3
  have hnn := g.low
  have hidm : H3.obj idm = H2.obj idm := df.obj idm g.idlt (fun h => by simp only [upd] at h; rw [if_neg (by have := g.idlt; omega), g.idow] at h; cases h)
  have hput := put_entr (val := val) (s := ((supN a : Nat) : Int)) (v := v') ks g.nodup
  have hmp := mpA_some (hidm.trans g.obj) hput
  simp -implicitDefEqProofs (disch := first | omega | with_unfolding_all exact eqR (Eq.refl _)) [nums, -getElem!_pos, -Int.natCast_add, -Int.natCast_mul, -Int.natCast_ediv, h9, h13, hlk, bslR_lv hml, e3', hmp]
  have hd : ∀ i, i < H2.next → ow i ≠ some ((supN a : Nat) : Int) → H3.obj i = H2.obj i := fun i h1 h2 => df.obj i h1 fun h => h2 (by simp only [upd] at h; rwa [if_neg (by omega)] at h)
  have ho3 : Ow H0 (H3.set idm (.map (entr (keyS ks (supN a : Nat)) fun t => if t = ((supN a : Nat) : Int) then v' else val t))) := by
    refine Df.ow (own := fun i => H0.next ≤ i) (Df.set (Df.into df fun i h => ?_) _ (.inl g.idlo)) ho hb fun i h => h
    simp only [upd] at h
    split at h
    · rename_i hi; subst hi; exact hnx
    · exact hnn i (by rw [h]; simp)
  refine hQ _ _ (fun t => if t = ((supN a : Nat) : Int) then v' else val t) (upd ow H2.next (some ((supN a : Nat) : Int))) ?_ ?_ ?_ ?_ ?_ ?_ ⟨keyS_nodup g.nodup, fun t => ?_, g.idlo, Nat.lt_of_lt_of_le g.idlt df.next, ?_, by simp [Heap.set, upd], fun i h => ?_, fun t h => ?_, fun t ht => ?_⟩ ?_ ho3
  any_goals (first | (simp [h8, h9, h10, h21, h22, h23]; done) | skip)
  · rw [keyS_mem, g.mem]
    simp only [List.mem_append, List.mem_singleton]
    constructor
    · rintro (⟨b, h1, h2⟩ | h)
      · exact ⟨b, .inl h1, h2⟩
      · exact ⟨a, .inr rfl, h.symm⟩
    · rintro ⟨b, h1 | h1, h2⟩
      · exact .inl ⟨b, h1, h2⟩
      · subst h1; exact .inr h2.symm
  · simp only [upd]; rw [if_neg (by have := g.idlt; omega)]; exact g.idow
  · simp only [upd] at h
    split at h
    · rename_i hi; subst hi; exact hnx
    · exact hnn i h
  · rw [keyS_mem] at h
    rw [if_neg (fun e => h (.inr e))]
    exact g.off t fun h2 => h (.inl h2)
  · by_cases hts : t = ((supN a : Nat) : Int)
    · subst hts
      refine ⟨gs ++ [⟨e, powL a, hml⟩], ?_, ?_⟩
      · rw [if_pos rfl]
        refine ha3.frame (Nat.le_refl _) (fun i h1 h2 => ?_) fun i h _ => h
        simp only [Heap.set, upd]
        rw [if_neg (fun e => ?_)]
        subst e
        simp only [upd] at h1
        rw [if_neg (by have := g.idlt; omega), g.idow] at h1; cases h1
      · rw [List.map_append, hg, List.filter_append, List.map_append, List.filter_cons_of_pos (by simp)]
        rfl
    · obtain ⟨gt, k1, k2⟩ := g.acc t ht
      refine ⟨gt, ?_, ?_⟩
      · rw [if_neg hts]
        refine k1.frame df.next (fun i h1 h2 => ?_) fun i h1 h2 => by simp only [upd]; rw [if_neg (by omega)]; exact h1
        simp only [Heap.set, upd]
        rw [if_neg (fun e => ?_), hd i h2 (by rw [h1]; simpa using hts)]
        subst e
        rw [g.idow] at h1; cases h1
      · rw [k2, List.filter_append, List.filter_cons_of_neg (by simpa using fun e => hts e.symm), List.filter_nil, List.append_nil]
  · refine hs.frame df.next (fun i h1 h2 => ?_) fun i h1 h2 => by simp only [upd]; rw [if_neg (by omega)]; exact h1
    simp only [Heap.set, upd]
    rw [if_neg (fun e => ?_), hd i h2 (by rw [h1]; simp)]
    subst e
    rw [g.idow] at h1; cases h1
theorem l72_3 {H0 : Heap} (hb : H0.base ≤ H0.next) {idm : Nat} {P : List Mo} {vp x8 : AV} (hv : ML tM vp P) (hl : P.length < 2 ^ 20) : ∀ (m j : Nat) (σ : Sig) (H : Heap) (w : AV) (ks : List Int) (val : Int → AV) (ow : Nat → Option Int), P.length - j = m → j ≤ P.length → σ 8 = x8 → σ 9 = .mp idm → σ 10 = w → σ 21 = vp → σ 22 = .int .i64 (P.length : Nat) → σ 23 = .int .i64 (j : Nat) →
    Grp H0 H idm ks val ow (P.take j) → AccP tB (fun i => ow i = some (-1)) H w ks → Ow H0 H → ks.length ≤ j →
    (∀ σ' H' w' ks' val' ow', σ' 8 = x8 → σ' 9 = .mp idm → σ' 10 = w' → Grp H0 H' idm ks' val' ow' P → AccP tB (fun i => ow' i = some (-1)) H' w' ks' → Ow H0 H' → ks'.length ≤ P.length → Res (ai (callI tab) s k .nrm σ' H') Q) →
    Res (li (callI tab) L72_3 (.inBlock 0 :: s) k σ H) Q := by
  intro m
  induction m with
  | zero =>
    intro j σ H w ks val ow hm hj h8 h9 h10 h21 h22 h23 g hs ho hkl hQ
    rw [List.take_of_length_le (by omega)] at g
    obtain ⟨il, hil⟩ : ∃ x, x = Jtm.inLoop L72_3 := ⟨_, rfl⟩; rw [li_eq' il hil]
    simp -implicitDefEqProofs (disch := first | omega | with_unfolding_all exact eqR (Eq.refl _)) [nums, -getElem!_pos, -Int.natCast_add, -Int.natCast_mul, -Int.natCast_ediv, L72_3, S72_2, h8, h9, h10, h21, h22, h23]
    subst hil
    try simp -implicitDefEqProofs (disch := first | omega | with_unfolding_all exact eqR (Eq.refl _)) [nums, -getElem!_pos, -Int.natCast_add, -Int.natCast_mul, -Int.natCast_ediv]
    refine hQ _ _ w ks val ow ?_ ?_ ?_ g hs ho (by omega) <;> simp [h8, h9, h10]
  | succ m ih =>
    intro j σ H w ks val ow hm hj h8 h9 h10 h21 h22 h23 g hs ho hkl hQ
    have hjl : j < P.length := by omega
    obtain ⟨p, e1, e2⟩ := ml_at hv H hjl
    have hnx := ho.next
    have htk : P.take (j + 1) = P.take j ++ [P[j]] := by rw [List.take_succ_eq_append_getElem hjl]
    have s0 : (0 : Int) ≤ ((supN P[j] : Nat) : Int) := by omega
    have dA : Add H ((H.new (.cells Mo.zero.cells none)).set H.next (.cells (P[j]).cells none)) := Add.refl.box _ _
    have nA : ((H.new (.cells Mo.zero.cells none)).set H.next (.cells (P[j]).cells none)).next = H.next + 1 := rfl
    have oA : ((H.new (.cells Mo.zero.cells none)).set H.next (.cells (P[j]).cells none)).obj H.next = .cells (P[j]).cells none := by simp [Heap.set, upd]
    have hwA : Ow H0 ((H.new (.cells Mo.zero.cells none)).set H.next (.cells (P[j]).cells none)) := (ho.new _).set _ hnx hb
    have hl1 : ∀ i, upd ow H.next none i ≠ none → H0.next ≤ i := fun i h => by
      simp only [upd] at h
      split at h
      · exact (h rfl).elim
      · exact g.low i h
    have gA : Grp H0 ((H.new (.cells Mo.zero.cells none)).set H.next (.cells (P[j]).cells none)) idm ks val (upd ow H.next none) (P.take j) := g.frame dA.next (dA.obj _ g.idlt) (fun i _ h _ _ => dA.obj i h) (fun i h => by simp only [upd]; rw [if_neg (by omega)]) hl1
    have sA : AccP tB (fun i => upd ow H.next none i = some (-1)) ((H.new (.cells Mo.zero.cells none)).set H.next (.cells (P[j]).cells none)) w ks := hs.frame dA.next (fun i _ h => dA.obj i h) fun i h1 h2 => by simp only [upd]; rw [if_neg (by omega)]; exact h1
    have hlk := gA.look rfl (s := (supN P[j] : Nat))
    have hnil := gA.isNil s0
    have hn0 : eqNil 1 .nils = some true := rfl
    generalize hHA : (H.new (.cells Mo.zero.cells none)).set H.next (.cells (P[j]).cells none) = HA at *
    by_cases hin : ((supN P[j] : Nat) : Int) ∈ ks
    · have hks : keyS ks (supN P[j] : Nat) = ks := by unfold keyS; rw [if_pos hin]
      rw [decide_eq_true hin, Bool.not_true] at hnil
      obtain ⟨il, hil⟩ : ∃ x, x = Jtm.inLoop L72_3 := ⟨_, rfl⟩; rw [li_eq' il hil]
      simp -implicitDefEqProofs (disch := first | omega | with_unfolding_all exact eqR (Eq.refl _)) [nums, -getElem!_pos, -Int.natCast_add, -Int.natCast_mul, -Int.natCast_ediv, L72_3, S72_2, h8, h9, h10, h21, h22, h23, e1, e2, storeZ, hHA, oA, ldM, call_43', hlk, hnil, hn0]
      refine s72_0 (H0 := H0) (idm := idm) (b12 := H.next) (a := P[j]) (w := w) (x8 := x8) (x21 := vp) (x22 := .int .i64 (P.length : Nat)) (x23 := .int .i64 (j : Nat)) hb gA sA hwA oA (by rw [List.length_take]; omega) ?_ ?_ ?_ ?_ ?_ ?_ ?_ ?_ fun σ1 H1 val1 ow1 g8 g9 g10 g21 g22 g23 g1 s1 o1 => ?_
      any_goals (first | (simp [h8, h9, h10, h21, h22, h23]; done) | skip)
      rw [hks, ← htk] at g1
      simp -implicitDefEqProofs (disch := first | omega | with_unfolding_all exact eqR (Eq.refl _)) [nums, -getElem!_pos, -Int.natCast_add, -Int.natCast_mul, -Int.natCast_ediv, S72_1, g8, g9, g10, g21, g22, g23]
      subst hil
      try simp -implicitDefEqProofs (disch := first | omega | with_unfolding_all exact eqR (Eq.refl _)) [nums, -getElem!_pos, -Int.natCast_add, -Int.natCast_mul, -Int.natCast_ediv]
      refine ih (j + 1) _ H1 w _ val1 ow1 (by omega) (by omega) ?_ ?_ ?_ ?_ ?_ ?_ g1 s1 o1 (by omega) hQ
      all_goals simp [g8, g9, g10, g21, g22]
    · have hks : keyS ks (supN P[j] : Nat) = ks ++ [((supN P[j] : Nat) : Int)] := by unfold keyS; rw [if_neg hin]
      rw [decide_eq_false hin, Bool.not_false] at hnil
      have hnA : HA.next = H.next + 1 := nA
      have sB : AccP tB (fun i => upd (upd ow H.next none) HA.next (some (-1)) i = some (-1)) HA w ks := sA.frame (Nat.le_refl _) (fun _ _ _ => rfl) fun i h1 h2 => by simp only [upd] at h1 ⊢; rw [if_neg (by omega)]; exact h1
      obtain ⟨w', H2, e3, s2, d2⟩ := sB.app (m := [((supN P[j] : Nat) : Int)]) (bs := 1) (ex := true) (n := 1) (by simp [upd]) (by simp) rfl (by simp; omega)
      have e3' : appA HA 1 1 w (.vec 1 true [.int .u8 (supN P[j] : Nat)]) = some (w', H2) := e3
      have hd : ∀ i, i < HA.next → upd ow H.next none i ≠ some (-1) → H2.obj i = HA.obj i := fun i h1 h2 => d2.obj i h1 fun h => h2 (by simp only [upd] at h ⊢; rwa [if_neg (by omega)] at h)
      have hlow : ∀ i, upd (upd ow H.next none) HA.next (some (-1)) i ≠ none → H0.next ≤ i := fun i h => by
        rw [upd] at h
        split at h
        · rename_i e; subst e; omega
        · exact hl1 i h
      have g2 : Grp H0 H2 idm ks val (upd (upd ow H.next none) HA.next (some (-1))) (P.take j) := gA.frame d2.next (hd _ gA.idlt (by rw [gA.idow]; simp)) (fun i s h1 h2 h3 => hd i h1 (by rw [h3]; simp; omega)) (fun i h => by rw [upd, if_neg (by omega)]) hlow
      have o2 : H2.obj H.next = .cells (P[j]).cells none := by rw [hd H.next (by omega) (by simp [upd])]; exact oA
      have hw2 : Ow H0 H2 := Df.ow (own := fun i => H0.next ≤ i) (Df.into d2 fun i h => hlow i (by rw [h]; simp)) hwA hb fun i h => h
      obtain ⟨il, hil⟩ : ∃ x, x = Jtm.inLoop L72_3 := ⟨_, rfl⟩; rw [li_eq' il hil]
      simp -implicitDefEqProofs (disch := first | omega | with_unfolding_all exact eqR (Eq.refl _)) [nums, -getElem!_pos, -Int.natCast_add, -Int.natCast_mul, -Int.natCast_ediv, L72_3, S72_2, h8, h9, h10, h21, h22, h23, e1, e2, storeZ, hHA, oA, ldM, call_43', hlk, hnil, hn0, bslR_u8, e3']
      refine s72_0 (H0 := H0) (idm := idm) (b12 := H.next) (a := P[j]) (w := w') (x8 := x8) (x21 := vp) (x22 := .int .i64 (P.length : Nat)) (x23 := .int .i64 (j : Nat)) hb g2 s2 hw2 o2 (by rw [List.length_take]; omega) ?_ ?_ ?_ ?_ ?_ ?_ ?_ ?_ fun σ1 H1 val1 ow1 g8 g9 g10 g21 g22 g23 g1 s1 o1 => ?_
      any_goals (first | (simp [h8, h9, h10, h21, h22, h23]; done) | skip)
      rw [hks, ← htk] at g1
      simp -implicitDefEqProofs (disch := first | omega | with_unfolding_all exact eqR (Eq.refl _)) [nums, -getElem!_pos, -Int.natCast_add, -Int.natCast_mul, -Int.natCast_ediv, S72_1, g8, g9, g10, g21, g22, g23]
      subst hil
      try simp -implicitDefEqProofs (disch := first | omega | with_unfolding_all exact eqR (Eq.refl _)) [nums, -getElem!_pos, -Int.natCast_add, -Int.natCast_mul, -Int.natCast_ediv]
      refine ih (j + 1) _ H1 w' _ val1 ow1 (by omega) (by omega) ?_ ?_ ?_ ?_ ?_ ?_ g1 s1 o1 (by simp; omega) hQ
      all_goals simp [g8, g9, g10, g21, g22]
end
end Go.Mach.Ytl
set_option linter.unusedSimpArgs false
set_option linter.unusedVariables false
set_option maxRecDepth 100000
namespace Go.Mach.Ytl
open Go.Mach
section
variable {s : List Jtm} {k : KF} {Q : AV → Heap → Prop}
attribute [local simp] guardI_u
attribute [local simp ↓ high] pureA_lkp heapA_mpu heapA_mkm
theorem call_129z {v : AV} {H : Heap} : callI tab 92 [v, .int .i64 0, .int .i64 0] H = some (.tup [], H) := by
  refine callI_enter tab_129 (by simp [AF129]) (.inl rfl) ?_
  have e : IntKind.i64.wrap 1 = 1 := rfl
  simp -implicitDefEqProofs (disch := first | omega | with_unfolding_all exact eqR (Eq.refl _)) [nums, -getElem!_pos, -Int.natCast_add, -Int.natCast_mul, -Int.natCast_ediv, AF129, e]
  obtain ⟨il, hil⟩ : ∃ x, x = Jtm.inLoop L129_4 := ⟨_, rfl⟩; rw [li_eq' il hil]
  simp -implicitDefEqProofs (disch := first | omega | with_unfolding_all exact eqR (Eq.refl _)) [nums, -getElem!_pos, -Int.natCast_add, -Int.natCast_mul, -Int.natCast_ediv, L129_4]
  subst hil
  simp -implicitDefEqProofs (disch := first | omega | with_unfolding_all exact eqR (Eq.refl _)) [nums, -getElem!_pos, -Int.natCast_add, -Int.natCast_mul, -Int.natCast_ediv]
theorem call_119z {v : AV} {n : Nat} {H : Heap} : callI tab 85 [v, .int .i64 0, .int .i64 0, .int .i64 n] H = some (.tup [], H) := by
  refine callI_enter tab_119 (by simp [AF119]) (.inl rfl) ?_
  have e : IntKind.i64.wrap 0 = 0 := rfl
  simp -implicitDefEqProofs (disch := first | omega | with_unfolding_all exact eqR (Eq.refl _)) [nums, -getElem!_pos, -Int.natCast_add, -Int.natCast_mul, -Int.natCast_ediv, AF119]
  obtain ⟨il, hil⟩ : ∃ x, x = Jtm.inLoop L119_6 := ⟨_, rfl⟩; rw [li_eq' il hil]
  simp -implicitDefEqProofs (disch := first | omega | with_unfolding_all exact eqR (Eq.refl _)) [nums, -getElem!_pos, -Int.natCast_add, -Int.natCast_mul, -Int.natCast_ediv, L119_6, call_129z, e]
  subst hil
  simp -implicitDefEqProofs (disch := first | omega | with_unfolding_all exact eqR (Eq.refl _)) [nums, -getElem!_pos, -Int.natCast_add, -Int.natCast_mul, -Int.natCast_ediv]
theorem call_102z {v : AV} {H : Heap} (hv : ∀ H', lenA H' 1 v = some (.int .i64 0)) (hr : ∀ H', relaxL AF102.fzR [v] H' = H') : callI tab 66 [v] H = some (.tup [], H) := by
  refine callI_relax tab_102 (by simp [AF102]) rfl (hr H) ?_
  have e : IntKind.u64.wrap 0 = 0 := rfl
  have h := hv H.begin
  have hc : callI tab 59 [.int .u64 0] H.begin = some (.int .i64 (Sort.bitsLen 0), H.begin) := call_101 (x := 0) (by omega) (H := H.begin)
  have hz := call_119z (v := v) (n := Sort.bitsLen 0) (H := H.begin)
  simp -implicitDefEqProofs (disch := first | omega | with_unfolding_all exact eqR (Eq.refl _)) [nums, -getElem!_pos, -Int.natCast_add, -Int.natCast_mul, -Int.natCast_ediv, AF102, h, e, hc, hz, frz_t0]
theorem swo_lt : Sort.SWO ltB where
  irrefl x := by simp [ltB]
  trans x y z h k := by simp only [ltB, decide_eq_true_eq] at *; omega
  ntrans x y z h k := by simp only [ltB, decide_eq_false_iff_not] at *; omega
structure Dq (own : Nat → Prop) (H H' : Heap) : Prop where
  obj : ∀ i, i < H.next → ¬ own i → H'.obj i = H.obj i
  next : H.next ≤ H'.next
  base : H'.base = H.base
  ws : H.ws = [] → H'.ws = []
theorem Dq.refl {own : Nat → Prop} {H : Heap} : Dq own H H := ⟨fun _ _ _ => rfl, Nat.le_refl _, rfl, id⟩
theorem Dq.set {own : Nat → Prop} {H H1 : Heap} (a : Dq own H H1) {id : Nat} (o : AObj) (hid : own id) (hb : H.base ≤ id) : Dq own H (H1.set id o) where
  obj i h1 h2 := by
    simp only [Heap.set, upd]
    rw [if_neg (fun e => h2 (by rw [e]; exact hid)), a.obj i h1 h2]
  next := a.next
  base := a.base
  ws h := by
    have := a.base
    simp only [Heap.set]; rw [if_neg (by omega)]; exact a.ws h
theorem Dq.ow {own : Nat → Prop} {H0 H H' : Heap} (a : Dq own H H') (ho : Ow H0 H) (h : ∀ i, own i → H0.next ≤ i) (hw : H0.ws = []) : Ow H0 H' where
  obj i hi := (a.obj i (Nat.lt_of_lt_of_le hi ho.next) fun h2 => by have := h i h2; omega).trans (ho.obj i hi)
  next := Nat.le_trans ho.next a.next
  base := a.base.trans ho.base
  ws := by rw [hw]; exact a.ws (by rw [ho.ws, hw])
theorem call_102L {own : Nat → Prop} {v : AV} {l : List Int} {H : Heap} (h : AccP tB own H v l) (hown : ∀ i, own i → H.base ≤ i) (hl : l.length < 65536) (hn : l.Nodup) :
    Res (callI tab 66 [v] H) fun e H' => e = .tup [] ∧ Dq own H H' ∧ ∃ S, S.Pairwise (· < ·) ∧ S.Perm l ∧ ((l = [] ∧ H' = H ∧ (v = .nils ∨ v = .vec 0 true [])) ∨ ∃ id, v = .sl id 0 l.length l.length false 1 ∧ own id ∧ id < H.next ∧ H'.obj id = .cells (tB.row S) none) := by
  cases h with
  | nil => rw [call_102z (fun _ => rfl) (fun _ => rfl)]; exact .mk ⟨rfl, .refl, [], .nil, .refl _, .inl ⟨rfl, rfl, .inl rfl⟩⟩
  | vec => rw [call_102z (fun _ => rfl) (fun _ => rfl)]; exact .mk ⟨rfl, .refl, [], .nil, .refl _, .inl ⟨rfl, rfl, .inr rfl⟩⟩
  | live id rel l n hnl hobj hid hidn hrel hne =>
    subst hnl
    have key : ∀ H1 : Heap, H1.obj id = .cells (tB.arr l.toArray) none → H1.next = H.next → Dq own H H1 → Res (callI tab 66 [.sl id 0 l.length l.length false 1] H1) fun e H' => e = .tup [] ∧ Dq own H H' ∧ ∃ S, S.Pairwise (· < ·) ∧ S.Perm l ∧ ((l = [] ∧ H' = H ∧ (AV.sl id 0 l.length l.length false 1 = .nils ∨ AV.sl id 0 l.length l.length false 1 = .vec 0 true [])) ∨ ∃ id', AV.sl id 0 l.length l.length false 1 = .sl id' 0 l.length l.length false 1 ∧ own id' ∧ id' < H.next ∧ H'.obj id' = .cells (tB.row S) none) := by
      intro H1 h1 h2 d1
      have hsz : l.toArray.size = l.length := by simp
      obtain ⟨e, H', hc, he, d', hp, hs, hw⟩ := call_102 (lo := l.length) (ex := false) (len := l.length) swo_lt (by rw [h2]; exact hidn) h1 hl (by omega) (by omega)
      have htk : d'.toList.take l.length = d'.toList := List.take_of_length_le (by have := hp.1; simp; omega)
      have hperm : d'.toList.Perm l := by
        have := hp.2.2
        rw [Array.toList_extract, Array.toList_extract] at this
        simp only [List.extract_eq_take_drop, Nat.sub_zero, List.drop_zero] at this
        rw [htk, List.take_of_length_le (by simp)] at this
        exact this
      have hsz' : d'.size = l.length := by rw [hp.1, hsz]
      refine ⟨e, H', hc, he, ⟨fun i k1 k2 => ?_, ?_, ?_, ?_⟩, d'.toList, ?_, hperm, .inr ⟨id, rfl, hid, hidn, hw.at⟩⟩
      · rw [hw.obj i (by omega), if_neg (fun e => k2 (by rw [e]; exact hid))]; exact d1.obj i k1 k2
      · rw [hw.nxt]; exact d1.next
      · rw [hw.base]; exact d1.base
      · intro hw0
        have h0 := d1.ws hw0
        apply List.eq_nil_iff_forall_not_mem.2
        intro i hi
        rcases hw.wsI i hi with h | ⟨h, h3⟩
        · rw [h0] at h; cases h
        · have := hown id hid
          rw [d1.base] at h3; omega
      · refine List.pairwise_iff_getElem.2 fun i j hi hj hij => ?_
        have hi' : i < d'.size := by simpa using hi
        have hj' : j < d'.size := by simpa using hj
        have := hs i j (Nat.zero_le _) hij (by omega)
        rw [getElem!_pos d' i hi', getElem!_pos d' j hj'] at this
        simp only [ltB, decide_eq_false_iff_not] at this
        have hne : d'[i] ≠ d'[j] := by
          have := (List.pairwise_iff_getElem.1 (List.nodup_iff_pairwise_ne.1 (hperm.nodup_iff.2 hn))) i j hi hj hij
          simpa using this
        simp only [Array.getElem_toList]
        omega
    have hrow : tB.row l = tB.arr l.toArray := rfl
    cases rel with
    | none => exact key H (by rw [hobj, hrow]) rfl .refl
    | some r =>
      obtain ⟨r1, r2, r3⟩ := hrel r rfl
      refine Res.relaxed tab_102 rfl rfl hobj (hown _ hid) (hown _ r1) (key _ ?_ rfl ((Dq.refl.set _ r1 (hown _ r1)).set _ hid (hown _ hid)))
      simp [Heap.set, upd, hrow]
theorem frz_mp {b n id : Nat} {H : Heap} : Mach.frz b (n + 1) H (.mp id) = some (.mp id, H) := rfl
theorem wrap_new {H H3 : Heap} {v : AV} (hws : H3.ws = []) (hv : v.noNew H.next 4 = false) : wrapA H v H3 = (v, { H3 with obj := unrelO H.next v H3.obj, base := H.base, ws := H.ws, wc := H.wc }) := by
  unfold wrapA
  rw [hws]
  simp [hv]
theorem nodup_lenI {r : List Int} : ∀ {l : List Int}, r.Nodup → (∀ x ∈ r, x ∈ l) → r.length ≤ l.length := by
  induction r with
  | nil => intro l _ _; simp
  | cons a r ih =>
    intro l hn hs
    have ha := hs a (by simp)
    have hn' := List.nodup_cons.1 hn
    have := ih (l := l.erase a) hn'.2 fun x hx => (List.mem_erase_of_ne (fun e => hn'.1 (by rw [← e]; exact hx))).2 (hs x (by simp [hx]))
    rw [List.length_erase_of_mem ha] at this
    have h1 := List.length_pos_of_mem ha
    simp only [List.length_cons]
    omega
structure Sets (P : List Mo) (S : List Int) : Prop where
  asc : S.Pairwise (· < ·)
  mem : ∀ s, s ∈ S ↔ ∃ a ∈ P, ((supN a : Nat) : Int) = s
theorem call_72 {v : AV} {L : List Mo} {n c : Int} {X : List Mo → Prop} {H : Heap} (hv : ML tM v L) (h19 : Res (callI tab 7 [v, .int .i64 n] H.begin) fun e H' => H' = H.begin ∧ ∃ w P, e = .tup [w, .int .i64 c] ∧ ML tM w P ∧ X P) (hX : ∀ P, X P → P.length ≤ 1000) :
    Res (callI tab 40 [v, .int .i64 n] H) fun e H' => Ow H H' ∧ ∃ P S w idm, X P ∧ e = .tup [.mp idm, w, .int .i64 c] ∧ ML tB w S ∧ Sets P S ∧ ∃ ks val ow, Grp H H' idm ks val ow P := by
  have hf := hv.frz
  refine .hide fun Q hQ => .enter tab_72 (by simp [AF72]) (.inr (by simp [hf])) ?_
  simp -implicitDefEqProofs (disch := first | omega | with_unfolding_all exact eqR (Eq.refl _)) [nums, -getElem!_pos, -Int.natCast_add, -Int.natCast_mul, -Int.natCast_ediv, AF72]
  refine .call h19 fun e H1 ⟨hH, w, P, he, hml, hx⟩ => ?_
  subst hH he
  have hlp := hX P hx
  have hln := fun H => (hml.rd H).1
  have i0 : ([AV.tup [w, .int .i64 c]] : List AV).length = 1 := rfl
  simp -implicitDefEqProofs (disch := first | omega | with_unfolding_all exact eqR (Eq.refl _)) [nums, -getElem!_pos, -Int.natCast_add, -Int.natCast_mul, -Int.natCast_ediv, hln]
  have g0 : Grp H.begin (H.begin.new (.map [])) H.next [] (fun _ => .nils) (fun _ => none) (P.take 0) := ⟨.nil, fun s => by simp, Nat.le_refl _, by show H.next < H.next + 1; omega, rfl, by simp [Heap.new, upd, entr], fun i h => (h rfl).elim, fun _ _ => rfl, fun s _ => ⟨[], .nil, rfl⟩⟩
  refine l72_3 (H0 := H.begin) (Nat.le_refl _) (idm := H.next) hml (by omega) (x8 := .int .i64 c) _ 0 _ _ .nils [] (fun _ => .nils) (fun _ => none) rfl (by omega) ?_ ?_ ?_ ?_ ?_ ?_ g0 .nil (.new (.refl _) _) (by simp) fun σ' H' w' ks val ow q8 q9 q10 g hs ho hkl => ?_
  any_goals (first | (simp; done) | skip)
  have hbs : H'.base = H.next := ho.base
  have hlow : ∀ i, ow i = some (-1) → H.next ≤ i := fun i h => g.low i (by rw [h]; simp)
  simp -implicitDefEqProofs (disch := first | omega | with_unfolding_all exact eqR (Eq.refl _)) [nums, -getElem!_pos, -Int.natCast_add, -Int.natCast_mul, -Int.natCast_ediv, S72_4, q8, q9, q10]
  refine .call (call_102L hs (fun i h => by rw [hbs]; exact hlow i h) (by omega) g.nodup) fun e H2 ⟨he, d2, S, hasc, hperm, hcase⟩ => ?_
  subst he
  have g2 : Grp H.begin H2 H.next ks val ow P := g.frame d2.next (d2.obj _ g.idlt (by rw [g.idow]; simp)) (fun i s h1 h2 h3 => d2.obj i h1 (by rw [h3]; simp; omega)) (fun _ _ => rfl) g.low
  have ho2 : Ow H.begin H2 := d2.ow ho hlow rfl
  have hsets : Sets P S := ⟨hasc, fun s => by rw [hperm.mem_iff, g.mem]⟩
  have hws : H2.ws = [] := ho2.ws
  have fin : ∀ (wS : AV) (H3 : Heap), ML tB wS S → H3.ws = [] → H3.next = H2.next → (∀ i, i < H2.next → ow i ≠ some (-1) → H3.obj i = H2.obj i) → Res (some (wrapA H (.tup [.mp H.next, wS, .int .i64 c]) H3)) Q := by
    intro wS H3 hmw hw3 hn3 ho3
    have hq : (AV.tup [.mp H.next, wS, .int .i64 c]).noNew H.next 4 = false := by simp [AV.noNew]
    rw [wrap_new hw3 hq]
    refine .mk (hQ _ _ ⟨⟨fun i hi => ?_, ?_, rfl, rfl⟩, P, S, wS, H.next, hx, rfl, hmw, hsets, ks, val, ow, ?_⟩)
    · show H3.obj i = H.obj i
      have h2 := ho2.next
      have h3 : H.begin.next = H.next := rfl
      rw [ho3 i (by omega) (fun h => by have := hlow i h; omega)]
      exact ho2.obj i hi
    · show H.next ≤ H3.next
      rw [hn3]; exact ho2.next
    · have g3 : Grp H.begin H3 H.next ks val ow P := g2.frame (by omega) (ho3 _ g2.idlt (by rw [g2.idow]; simp)) (fun i s h1 h2 h3 => ho3 i h1 (by rw [h3]; simp; omega)) (fun _ _ => rfl) g2.low
      exact ⟨g3.nodup, g3.mem, g3.idlo, g3.idlt, g3.idow, g3.obj, g3.low, g3.off, fun s hs => by
        obtain ⟨gs, h1, h2⟩ := g3.acc s hs
        exact ⟨gs, h1.frame (Nat.le_refl _) (fun _ _ _ => rfl) fun _ h _ => h, h2⟩⟩
  rcases hcase with ⟨hk0, hH2, hw⟩ | ⟨id, hw, hid, hidn, hob⟩
  · subst hk0 hH2
    have hS0 : S = [] := List.Perm.eq_nil hperm
    have hmw : ML tB w' S := by
      rcases hw with hw | hw <;> subst hw hS0
      · exact .inl ⟨rfl, rfl⟩
      · exact .inr ⟨true, rfl⟩
    have hfw := hmw.frz
    simp -implicitDefEqProofs (disch := first | omega | with_unfolding_all exact eqR (Eq.refl _)) [nums, -getElem!_pos, -Int.natCast_add, -Int.natCast_mul, -Int.natCast_ediv, q8, q9, q10, hfw, frz_mp]
    exact fin _ _ hmw hws rfl fun _ _ _ => rfl
  · subst hw
    have hl := hperm.length_eq
    have hd : H2.obj id = .cells (tB.arr S.toArray) none := hob
    have hz := frz_live (t := tB) (b := H.next) (m := 4) (id := id) (k := ks.length) (lo := ks.length) (ex := false) hd (hlow _ hid) (by simp; omega) (by omega)
    have htk : S.toArray.toList.take ks.length = S := List.take_of_length_le (by simp; omega)
    rw [show tB.e = 1 from rfl, htk] at hz
    have hz' : Mach.frz H.next 5 H2 (.sl id 0 ks.length ks.length false 1) = some (.vec ks.length (false && ks.length == ks.length) (tB.row S), H2.set id (.frz (tB.arr S.toArray))) := hz
    have hmw : ML tB (.vec ks.length (false && ks.length == ks.length) (tB.row S)) S := .inr ⟨_, by rw [hl]⟩
    have hw3 : (H2.set id (.frz (tB.arr S.toArray))).ws = [] := by
      have hb : H2.base = H.next := ho2.base
      simp only [Heap.set]
      rw [if_neg (by rw [hb]; have := hlow _ hid; omega)]
      exact hws
    generalize AV.vec ks.length (false && ks.length == ks.length) (tB.row S) = vS at *
    simp -implicitDefEqProofs (disch := first | omega | with_unfolding_all exact eqR (Eq.refl _)) [nums, -getElem!_pos, -Int.natCast_add, -Int.natCast_mul, -Int.natCast_ediv, q8, q9, q10, hz', frz_mp]
    refine fin _ _ hmw hw3 rfl fun i h1 h2 => ?_
    simp only [Heap.set, upd]
    rw [if_neg (fun e => h2 (by rw [e]; exact hid))]
theorem call_20 {v : AV} {L : List Mo} {n c : Int} {X : List Mo → Prop} {H : Heap} (hv : ML tM v L) (h19 : ∀ H, Res (callI tab 7 [v, .int .i64 n] H) fun e H' => H' = H ∧ ∃ w P, e = .tup [w, .int .i64 c] ∧ ML tM w P ∧ X P) (hX : ∀ P, X P → P.length ≤ 1000) :
    Res (callI tab 9 [v, .int .i64 n] H) fun e H' => H' = H ∧ ∃ P S w, X P ∧ e = .tup [w, .int .i64 c] ∧ ML tB w S ∧ Sets P S := by
  have hf := hv.frz
  refine .hide fun Q hQ => .enter tab_20 (by simp [AF20]) (.inr (by simp [hf])) ?_
  simp -implicitDefEqProofs (disch := first | omega | with_unfolding_all exact eqR (Eq.refl _)) [nums, -getElem!_pos, -Int.natCast_add, -Int.natCast_mul, -Int.natCast_ediv, AF20]
  refine .call (call_72 hv (h19 _) hX) fun e H1 ⟨ho, P, S, w, idm, hx, he, hml, hs, _⟩ => ?_
  subst he
  have hws : H1.ws = [] := ho.ws
  have hfw := hml.frz
  have hnn := hml.nonew H.next 2
  have hq : (AV.tup [w, .int .i64 c]).noNew H.next 4 = true := by simp [hnn]
  simp -implicitDefEqProofs (disch := first | omega | with_unfolding_all exact eqR (Eq.refl _)) [nums, -getElem!_pos, -Int.natCast_add, -Int.natCast_mul, -Int.natCast_ediv, hfw, wrap_quiet hws hq]
  exact .mk (hQ _ _ ⟨rfl, P, S, w, hx, rfl, hml, hs⟩)
end
end Go.Mach.Ytl
