/-
  Regions whose order Go leaves open: when the order of the text stands for every order. By an AI agent.
-/
import Derived.Test.YtpifopfpgfbdgaaMj
import Derived.Test.YtpifopfpgfbdgaaMk
set_option linter.unusedSimpArgs false
set_option linter.unusedVariables false
namespace Go.Mach

def optL (x : Option AOpd) : List AOpd := match x with
  | some a => [a]
  | none => []

/-- What an operation reads. -/
def AOp.opds : AOp → List AOpd
  | .mv x | .box x | .nchk x | .un _ x | .cvi _ x | .cvbs x | .faddr _ x | .fld _ _ _ x | .ext x _ | .len _ x | .cap x | .clr _ _ x | .load _ _ x => [x]
  | .pick c a b => [c, a, b]
  | .alloc _ | .lenc _ => []
  | .build _ ps | .bslice _ _ _ ps => ps.map fun p => p.2.2
  | .store _ a x => [a, x]
  | .bin _ x y | .eqb _ x y | .eqa _ _ x y | .eqn _ _ x y | .iaddr _ _ x y | .idx _ _ _ x y | .idxs x y | .app _ _ x y | .cpy _ x y | .lkp _ _ _ x y | .mks _ _ _ x y => [x, y]
  | .mkf _ f c => f ++ c
  | .mkm h => optL h
  | .slc _ _ x a b c => x :: (optL a ++ optL b ++ optL c)
  | .mpu _ m k v => [m, k, v]
  | .minmax _ xs => xs
  | .call g xs => g :: xs

theorem map_opd {f g : AOpd → AV} {x : Option AOpd} (h : ∀ a ∈ optL x, f a = g a) : x.map f = x.map g := by
  cases x with
  | none => rfl
  | some a => simp [h a (by simp [optL])]

theorem pure_congr {f g : AOpd → AV} {H : Heap} {op : AOp} (h : ∀ x ∈ op.opds, f x = g x) : pureA f H op = pureA g H op := by
  cases op <;> simp only [AOp.opds] at h <;> simp only [pureA]
  case build z ps =>
    have : (ps.map fun p => (p.1, p.2.1, f p.2.2)) = ps.map fun p => (p.1, p.2.1, g p.2.2) := by
      apply List.map_congr_left
      intro p hp
      rw [h p.2.2 (List.mem_map.2 ⟨p, hp, rfl⟩)]
    rw [this]
  case mkf n fs cs =>
    have h1 : fs.map f = fs.map g := List.map_congr_left fun x hx => h x (by simp [hx])
    have h2 : cs.map f = cs.map g := List.map_congr_left fun x hx => h x (by simp [hx])
    rw [h1, h2]
  case slc k e x a b c =>
    rw [h x (by simp), map_opd fun y hy => h y (by simp [hy]), map_opd fun y hy => h y (by simp [hy]), map_opd fun y hy => h y (by simp [hy])]
  case minmax mx xs =>
    have h1 : xs.map f = xs.map g := List.map_congr_left fun x hx => h x hx
    rw [h1]
  all_goals simp_all

theorem heap_congr {f g : AOpd → AV} {H : Heap} {op : AOp} (h : ∀ x ∈ op.opds, f x = g x) : heapA f H op = heapA g H op := by
  cases op <;> simp only [AOp.opds] at h <;> simp only [heapA]
  case bslice n e z ps =>
    have : (ps.map fun p => (p.1, p.2.1, f p.2.2)) = ps.map fun p => (p.1, p.2.1, g p.2.2) := by
      apply List.map_congr_left
      intro p hp
      rw [h p.2.2 (List.mem_map.2 ⟨p, hp, rfl⟩)]
    rw [this]
  case mkm hint =>
    cases hint with
    | none => rfl
    | some x => simp only [h x (by simp [optL])]
  all_goals simp_all

theorem step_congr {call : CallFn} {f g : AOpd → AV} {H : Heap} {op : AOp} (h : ∀ x ∈ op.opds, f x = g x) : stepA call f H op = stepA call g H op := by
  unfold stepA
  split
  · rename_i n xs
    simp only [AOp.opds] at h
    have h1 : xs.map f = xs.map g := List.map_congr_left fun x hx => h x (by simp [hx])
    rw [h n (by simp), h1]
  · rw [pure_congr h, heap_congr h]

/-- Does an operation look at the heap? -/
def heapOp : AOp → Bool
  | .mv _ | .pick .. | .build .. | .nchk _ | .bin .. | .eqb .. | .eqa .. | .eqn .. | .un .. | .cvi .. | .mkf .. | .faddr .. | .fld .. | .iaddr .. | .idx .. | .idxs .. | .ext .. | .lenc _ | .cap _ | .minmax .. => false
  | _ => true

theorem noheap {call : CallFn} {f : AOpd → AV} {op : AOp} (h : heapOp op = false) {H H' : Heap} {v : AV} (hs : stepA call f H op = some (v, H')) : H' = H ∧ ∀ H2, stepA call f H2 op = some (v, H2) := by
  cases op <;> simp only [heapOp] at h <;> (try (cases h; done)) <;> simp only [stepA, isPure, if_true, pureA] at hs ⊢ <;>
    (first
      | (cases hs; exact ⟨rfl, fun _ => rfl⟩)
      | (split at hs <;> (first | (cases hs; done) | (cases hs; rename_i v hv; exact ⟨rfl, fun H2 => by simp only [hv]⟩))))

/-! ### The order of a region -/
def depsOf (o : Oper) : List Nat := o.after.toList.filterMap fun e => if Region.binds .any e then some e.on else none
def uni (a b : List Nat) : List Nat := b.foldl (fun acc x => if acc.contains x then acc else x :: acc) a
def befOne (o : Oper) (acc : List (List Nat)) : List Nat := (depsOf o).foldl (fun l d => uni (uni l [d]) (acc.getD d [])) []
def befsGo : List Oper → List (List Nat) → List (List Nat)
  | [], acc => acc
  | o :: os, acc => befsGo os (acc ++ [befOne o acc])

inductive Bef (ops : Array Oper) : Nat → Nat → Prop
  | dep {i j : Nat} {o : Oper} (h : ops[j]? = some o) (hd : i ∈ depsOf o) : Bef ops i j
  | trans {i j k : Nat} (h1 : Bef ops i j) (h2 : Bef ops j k) : Bef ops i k

theorem mem_uni {x : Nat} : ∀ {b a : List Nat}, x ∈ uni a b → x ∈ a ∨ x ∈ b := by
  intro b
  induction b with
  | nil => intro a h; exact .inl h
  | cons y b ih =>
    intro a h
    simp only [uni, List.foldl_cons] at h
    rcases ih h with h1 | h1
    · split at h1
      · exact .inl h1
      · rcases List.mem_cons.1 h1 with h2 | h2
        · exact .inr (by simp [h2])
        · exact .inl h2
    · exact .inr (by simp [h1])

theorem mem_befOne {ops : Array Oper} {acc : List (List Nat)} {o : Oper} {j : Nat} (ho : ops[j]? = some o) (hacc : ∀ d i, i ∈ acc.getD d [] → Bef ops i d) : ∀ i, i ∈ befOne o acc → Bef ops i j := by
  unfold befOne
  have : ∀ (ds : List Nat) (l : List Nat), (∀ d ∈ ds, d ∈ depsOf o) → (∀ i ∈ l, Bef ops i j) → ∀ i ∈ ds.foldl (fun l d => uni (uni l [d]) (acc.getD d [])) l, Bef ops i j := by
    intro ds
    induction ds with
    | nil => intro l _ hl; exact hl
    | cons d ds ih =>
      intro l hd hl
      refine ih _ (fun d' h => hd d' (by simp [h])) ?_
      intro i hi
      have hdd : Bef ops d j := .dep ho (hd d (by simp))
      rcases mem_uni hi with h1 | h1
      · rcases mem_uni h1 with h2 | h2
        · exact hl i h2
        · simp at h2; subst h2; exact hdd
      · exact .trans (hacc d i h1) hdd
  exact this (depsOf o) [] (fun _ h => h) (by simp)

theorem mem_befs {ops : Array Oper} : ∀ (os : List Oper) (acc : List (List Nat)), (∀ j, os[j]? = ops[acc.length + j]?) → (∀ d i, i ∈ acc.getD d [] → Bef ops i d) → ∀ d i, i ∈ (befsGo os acc).getD d [] → Bef ops i d := by
  intro os
  induction os with
  | nil => intro acc _ h; exact h
  | cons o os ih =>
    intro acc hos h
    refine ih (acc ++ [befOne o acc]) (fun j => ?_) ?_
    · have := hos (j + 1)
      rw [List.getElem?_cons_succ] at this
      rw [this]; congr 1; simp; omega
    · intro d i hi
      rw [List.getD_eq_getElem?_getD, List.getElem?_append] at hi
      split at hi
      · exact h d i (by rw [List.getD_eq_getElem?_getD]; exact hi)
      · rename_i hd
        by_cases e : d = acc.length
        · subst e
          simp at hi
          have ho : ops[acc.length]? = some o := by have := hos 0; simpa using this.symm
          exact mem_befOne ho h i hi
        · rw [List.getElem?_eq_none (by simp; omega)] at hi
          simp at hi

def AOpd.tmps : AOpd → List Nat
  | .t n => [n]
  | .c _ => []
/-- The slots that an operation reads. -/
def readsA (o : AOper) : List Nat := o.op.opds.flatMap AOpd.tmps ++ (match o.guard with
  | some (t, _) => [t]
  | none => [])

def clash (x y : AOper) : Bool :=
  (match x.dst with
    | some d => (readsA y).contains d || y.dst == some d
    | none => false) ||
  (match y.dst with
    | some d => (readsA x).contains d
    | none => false)

/-- i before j is fixed, or j before i. -/
def ordd (bs : List (List Nat)) (i j : Nat) : Bool := (bs.getD j []).contains i || (bs.getD i []).contains j

def soloOf (bs : List (List Nat)) (hs : List Bool) (i : Nat) : Bool := (List.range hs.length).all fun j => j == i || !(hs.getD j false) || ordd bs i j

/-- The text's order may stand for every order: each dependence points back; two operations that meet in a slot are ordered. -/
def drawOK (ops : Array Oper) (as : List AOper) : Bool :=
  let bs := befsGo ops.toList []
  let n := ops.size
  ((List.range n).all fun i => match ops[i]? with
    | some o => (depsOf o).all fun d => decide (d < i)
    | none => true) &&
  ((List.range n).all fun j => (List.range j).all fun i => match as[i]?, as[j]? with
    | some x, some y => !(clash x y) || (bs.getD j []).contains i
    | _, _ => true) &&
  ((List.range n).all fun i => match as[i]? with
    | some x => !x.solo || soloOf bs (as.map fun a => heapOp a.op) i
    | none => true) &&
  ((List.range n).all fun i => match ops[i]?, as[i]? with
    | some o, some x => !(heapOp x.op) || o.op.operands.toList.all fun y => match y with
      | .tmp t => (readsA x).contains t
      | _ => true
    | _, _ => true)

structure DrawP (ops : Array Oper) (as : List AOper) : Prop where
  back : ∀ i o, ops[i]? = some o → ∀ d ∈ depsOf o, d < i
  meet : ∀ i j x y, i < j → as[i]? = some x → as[j]? = some y → clash x y = true → Bef ops i j
  solo : ∀ i x, as[i]? = some x → x.solo = true → ∀ j y, as[j]? = some y → j ≠ i → heapOp y.op = true → Bef ops i j ∨ Bef ops j i
  looks : ∀ (i : Nat) (o : Oper) (x : AOper), ops[i]? = some o → as[i]? = some x → heapOp x.op = true → ∀ t, Operand.tmp t ∈ o.op.operands → t ∈ readsA x

theorem drawOK_sound {ops : Array Oper} {as : List AOper} (hl : as.length = ops.size) (h : drawOK ops as = true) : DrawP ops as := by
  simp only [drawOK, Bool.and_eq_true, List.all_eq_true, List.mem_range] at h
  obtain ⟨⟨⟨h1, h2⟩, h3⟩, h4⟩ := h
  have hb : ∀ d i, i ∈ (befsGo ops.toList []).getD d [] → Bef ops i d := mem_befs ops.toList [] (fun j => by simp) (fun d i h => by simp at h)
  refine ⟨fun i o ho d hd => ?_, fun i j x y hij hx hy hc => ?_, fun i x hx hs j y hy hne hh => ?_, fun i o x ho hx hh t ht => ?_⟩
  · have hi : i < ops.size := by
      rcases Nat.lt_or_ge i ops.size with h | h
      · exact h
      · simp [Array.getElem?_eq_none h] at ho
    have := h1 i hi
    rw [ho] at this
    simp only [List.all_eq_true] at this
    simpa using this d hd
  · have hj : j < ops.size := by
      obtain ⟨h, _⟩ := List.getElem?_eq_some_iff.1 hy; omega
    have := h2 j hj i hij
    rw [hx, hy] at this
    simp only [hc, Bool.not_true, Bool.false_or] at this
    exact hb j i (by simpa using this)
  · obtain ⟨hi, _⟩ := List.getElem?_eq_some_iff.1 hx
    obtain ⟨hj, hjy⟩ := List.getElem?_eq_some_iff.1 hy
    have := h3 i (by omega)
    rw [hx] at this
    simp only [hs, Bool.not_true, Bool.false_or, soloOf, List.all_eq_true, List.mem_range, List.length_map] at this
    have := this j hj
    have e1 : (as.map fun a => heapOp a.op).getD j false = true := by
      rw [List.getD_eq_getElem?_getD, List.getElem?_map, hy]; simp [hh]
    simp only [e1, Bool.not_true, Bool.or_false, Bool.or_eq_true, beq_iff_eq] at this
    rcases this with h | h
    · exact absurd h hne
    · simp only [ordd, Bool.or_eq_true] at h
      rcases h with h | h
      · exact .inl (hb j i (by simpa using h))
      · exact .inr (hb i j (by simpa using h))
  · obtain ⟨hi, _⟩ := List.getElem?_eq_some_iff.1 hx
    have := h4 i (by omega)
    rw [ho, hx] at this
    simp only [hh, Bool.not_true, Bool.false_or, List.all_eq_true] at this
    simpa using this (.tmp t) (by simpa using ht)

/-- The same, but that not every new number need have a block. -/
structure StepW (M : Mem) (ρ : Rho) (H : Heap) (w : World) (M' : Mem) (ρ' : Rho) (H' : Heap) (w' : World) : Prop where
  rel : Rel M' ρ' H' w'
  mem : ∀ b o, M b = some o → M' b = some o
  rho : ∀ i p, ρ i = some p → ρ' i = some p
  old : ∀ i, i < H.next → ρ' i = ρ i
  os : w'.os = w.os
  tape : w'.tape = w.tape
  output : w'.output = w.output
  size : w.heap.size ≤ w'.heap.size
  next : H.next ≤ H'.next
  base : H'.base = H.base
  wc : H.wc ≤ H'.wc
  wsub : ∀ i, i ∈ H.ws → i ∈ H'.ws
  trk : ∃ T : Nat → Prop, (∀ i, T i → i < H.base → i ∈ H'.ws) ∧ (∀ i, T i → H.wc < H'.wc) ∧ (∀ i, i < H.next → ¬ T i → H'.obj i = H.obj i) ∧
    (∀ b, b < w.heap.size → (∀ i p, T i → ρ i = some p → p.1 ≠ b) → w'.heap[b]? = w.heap[b]?) ∧
    (∀ b o, M' b = some o → M b = none → w.heap.size ≤ b ∨ ∃ i p, T i ∧ ρ i = some p ∧ p.1 = b) ∧
    (∀ i p, H.next ≤ i → ρ' i = some p → w.heap.size ≤ p.1 ∨ ∃ j q, T j ∧ ρ j = some q ∧ q.1 = p.1)

theorem StepW.trans {M M1 M2 : Mem} {ρ ρ1 ρ2 : Rho} {H H1 H2 : Heap} {w w1 w2 : World} (a : StepW M ρ H w M1 ρ1 H1 w1) (b : StepW M1 ρ1 H1 w1 M2 ρ2 H2 w2)   : StepW M ρ H w M2 ρ2 H2 w2 := by
  obtain ⟨T1, a1, a2, a3, a4, a5, a6⟩ := a.trk
  obtain ⟨T2, b1, b2, b3, b4, b5, b6⟩ := b.trk
  have hnext := a.next
  refine ⟨b.rel, fun x o h => b.mem _ _ (a.mem _ _ h), fun i p h => b.rho _ _ (a.rho _ _ h), fun i h => (b.old i (by omega)).trans (a.old i h), b.os.trans a.os, b.tape.trans a.tape, b.output.trans a.output,
    Nat.le_trans a.size b.size, Nat.le_trans a.next b.next, b.base.trans a.base, Nat.le_trans a.wc b.wc, fun i h => b.wsub _ (a.wsub _ h),
    fun i => T1 i ∨ (T2 i ∧ i < H.next), ?_, ?_, ?_, ?_, ?_, ?_⟩
  · rintro i (h | ⟨h, _⟩) hb
    · exact b.wsub _ (a1 i h hb)
    · exact b1 i h (by rw [a.base]; exact hb)
  · rintro i (h | ⟨h, _⟩)
    · exact Nat.lt_of_lt_of_le (a2 i h) b.wc
    · exact Nat.lt_of_le_of_lt a.wc (b2 i h)
  · intro i hi hT
    rw [b3 i (by omega) (fun h => hT (.inr ⟨h, hi⟩)), a3 i hi (fun h => hT (.inl h))]
  · intro x hx hT
    have h1 := a4 x hx fun i p h hp => hT i p (.inl h) hp
    rw [b4 x (by have := a.size; omega) ?_, h1]
    intro i p h hp
    by_cases hi : i < H.next
    · rw [a.old i hi] at hp
      exact hT i p (.inr ⟨h, hi⟩) hp
    · rcases a6 i p (by omega) hp with h6 | ⟨j, q, h7, h8, h9⟩
      · omega
      · rw [← h9]; exact hT j q (.inl h7) h8
  · intro x o h1 h2
    cases h3 : M1 x with
    | some o' =>
      rcases a5 x o' h3 h2 with h | ⟨i, p, h4, h5, h6⟩
      · exact .inl h
      · exact .inr ⟨i, p, .inl h4, h5, h6⟩
    | none =>
      rcases b5 x o h1 h3 with h | ⟨i, p, h4, h5, h6⟩
      · exact .inl (by have := a.size; omega)
      · by_cases hi : i < H.next
        · rw [a.old i hi] at h5
          exact .inr ⟨i, p, .inr ⟨h4, hi⟩, h5, h6⟩
        · rcases a6 i p (by omega) h5 with h7 | ⟨j, q, h7, h8, h9⟩
          · exact .inl (by omega)
          · exact .inr ⟨j, q, .inl h7, h8, h9.trans h6⟩
  · intro i p hi hp
    by_cases hi1 : i < H1.next
    · rw [b.old i hi1] at hp
      rcases a6 i p hi hp with h | ⟨j, q, h7, h8, h9⟩
      · exact .inl h
      · exact .inr ⟨j, q, .inl h7, h8, h9⟩
    · rcases b6 i p (by omega) hp with h | ⟨j, q, h7, h8, h9⟩
      · exact .inl (by have := a.size; omega)
      · by_cases hj : j < H.next
        · rw [a.old j hj] at h8
          exact .inr ⟨j, q, .inr ⟨h7, hj⟩, h8, h9⟩
        · rcases a6 j q (by omega) h8 with h | ⟨j', q', h10, h11, h12⟩
          · exact .inl (by omega)
          · exact .inr ⟨j', q', .inl h10, h11, h12.trans h9⟩


theorem Step.toW {M M1 : Mem} {ρ ρ1 : Rho} {H H1 : Heap} {w w1 : World} (s : Step M ρ H w M1 ρ1 H1 w1) : StepW M ρ H w M1 ρ1 H1 w1 :=
  ⟨s.rel, s.mem, s.rho, s.old, s.os, s.tape, s.output, s.size, s.next, s.base, s.wc, s.wsub, s.trk⟩

theorem StepW.toStep {M M1 : Mem} {ρ ρ1 : Rho} {H H1 : Heap} {w w1 : World} (s : StepW M ρ H w M1 ρ1 H1 w1) (full : ∀ i, H.next ≤ i → i < H1.next → ∃ p, ρ1 i = some p) : Step M ρ H w M1 ρ1 H1 w1 :=
  ⟨s.rel, s.mem, s.rho, s.old, full, s.os, s.tape, s.output, s.size, s.next, s.base, s.wc, s.wsub, s.trk⟩

/-! ### The run of the text's order, step by step -/
structure Trace (call : CallFn) (as : List AOper) (σs : Nat → Sig) (Hs : Nat → Heap) : Prop where
  step : ∀ i x, as[i]? = some x → (wantedA (σs i) x.guard = true ∧ ∃ v, stepA call (ev (σs i)) (Hs i) x.op = some (v, Hs (i + 1)) ∧ (x.solo = true ∨ (Hs (i + 1)).wc = (Hs i).wc) ∧ σs (i + 1) = putS (σs i) x.dst v) ∨
    (wantedA (σs i) x.guard = false ∧ Hs (i + 1) = Hs i ∧ σs (i + 1) = putS (σs i) x.dst undefA)

theorem trace_of {call : CallFn} {k : Sig → Heap → R} {r : AV × Heap} : ∀ (as : List AOper) (σ : Sig) (H : Heap), evalOps call as k σ H = some r → ∃ σs Hs, σs 0 = σ ∧ Hs 0 = H ∧ Trace call as σs Hs ∧ k (σs as.length) (Hs as.length) = some r := by
  intro as
  induction as with
  | nil => intro σ H h; exact ⟨fun _ => σ, fun _ => H, rfl, rfl, ⟨fun i x hx => by simp at hx⟩, h⟩
  | cons x as ih =>
    intro σ H h
    simp only [evalOps] at h
    have glue : ∀ σ1 H1, evalOps call as k σ1 H1 = some r → ((wantedA σ x.guard = true ∧ ∃ v, stepA call (ev σ) H x.op = some (v, H1) ∧ (x.solo = true ∨ H1.wc = H.wc) ∧ σ1 = putS σ x.dst v) ∨ (wantedA σ x.guard = false ∧ H1 = H ∧ σ1 = putS σ x.dst undefA)) →
        ∃ σs Hs, σs 0 = σ ∧ Hs 0 = H ∧ Trace call (x :: as) σs Hs ∧ k (σs (x :: as).length) (Hs (x :: as).length) = some r := by
      intro σ1 H1 h1 h2
      obtain ⟨σs, Hs, e1, e2, e3, e4⟩ := ih σ1 H1 h1
      refine ⟨fun i => match i with | 0 => σ | i + 1 => σs i, fun i => match i with | 0 => H | i + 1 => Hs i, rfl, rfl, ⟨fun i y hy => ?_⟩, e4⟩
      cases i with
      | zero =>
        simp at hy; subst hy
        simp only [e1, e2]
        exact h2
      | succ i =>
        rw [List.getElem?_cons_succ] at hy
        exact e3.step i y hy
    split at h
    · rename_i hw
      split at h
      · rename_i v H1 hst
        split at h
        · rename_i hsolo
          refine glue _ _ h (.inl ⟨hw, v, hst, ?_, rfl⟩)
          simpa using hsolo
        · cases h
      · cases h
    · rename_i hw
      exact glue _ _ h (.inr ⟨by simpa using hw, rfl, rfl⟩)

section draw
variable {P : Program} {call : CallFn} {N : Nat} {ops : Array Oper} {as : List AOper} {σs : Nat → Sig} {Hs : Nat → Heap}

theorem trace_astep (hc : CallA call) (ht : Trace call as σs Hs) (i : Nat) (hi : i < as.length) : AStep (Hs i) (Hs (i + 1)) := by
  rcases ht.step i as[i] (List.getElem?_eq_getElem hi) with ⟨_, v, h, _⟩ | ⟨_, h, _⟩
  · exact astep_step hc h
  · rw [h]; exact AStep.refl _

theorem trace_le (hc : CallA call) (ht : Trace call as σs Hs) {i j : Nat} (hij : i ≤ j) (hj : j ≤ as.length) : AStep (Hs i) (Hs j) := by
  induction j with
  | zero =>
    have e0 : i = 0 := by omega
    subst e0; exact AStep.refl _
  | succ j ih =>
    by_cases e : i = j + 1
    · subst e; exact AStep.refl _
    · exact (ih (by omega) (by omega)).trans (trace_astep hc ht j (by omega))

/-- A slot that no operation between writes. -/
theorem trace_slot (ht : Trace call as σs Hs) (t : Nat) {i j : Nat} (hij : i ≤ j) (hj : j ≤ as.length) (hno : ∀ k x, i ≤ k → k < j → as[k]? = some x → x.dst ≠ some t) : σs j t = σs i t := by
  induction j with
  | zero =>
    have e0 : i = 0 := by omega
    subst e0; rfl
  | succ j ih =>
    by_cases e : i = j + 1
    · subst e; rfl
    · have hjl : j < as.length := by omega
      have hx := List.getElem?_eq_getElem hjl
      have hne := hno j as[j] (by omega) (by omega) hx
      rw [← ih (by omega) (by omega) (fun k x h1 h2 => hno k x h1 (by omega))]
      have put_ne : ∀ (σ : Sig) v, putS σ as[j].dst v t = σ t := by
        intro σ v
        cases hd : as[j].dst with
        | none => rfl
        | some d => exact upd_ne _ _ (fun e => hne (by rw [hd, e]))
      rcases ht.step j as[j] hx with ⟨_, v, _, _, h⟩ | ⟨_, _, h⟩ <;> rw [h] <;> exact put_ne _ _

/-- Is operation i one that changes what was there? -/
def writes (Hs : Nat → Heap) (i : Nat) : Prop := (Hs (i + 1)).wc ≠ (Hs i).wc

theorem writes_solo (ht : Trace call as σs Hs) {i : Nat} {x : AOper} (hx : as[i]? = some x) (hw : writes Hs i) : x.solo = true ∧ heapOp x.op = true := by
  rcases ht.step i x hx with ⟨_, v, h, hs, _⟩ | ⟨_, h, _⟩
  · refine ⟨hs.resolve_right hw, ?_⟩
    cases hh : heapOp x.op with
    | true => rfl
    | false =>
      have := (noheap hh h).1
      exact absurd (by rw [this]) hw
  · exact absurd (by rw [h]) hw

theorem quiet_range (hc : CallA call) (ht : Trace call as σs Hs) {i j : Nat} (hij : i ≤ j) (hj : j ≤ as.length) (hq : ∀ k, i ≤ k → k < j → ¬ writes Hs k) : (Hs j).wc = (Hs i).wc := by
  induction j with
  | zero =>
    have e0 : i = 0 := by omega
    subst e0; rfl
  | succ j ih =>
    by_cases e : i = j + 1
    · subst e; rfl
    · have h1 := ih (by omega) (by omega) (fun k h2 h3 => hq k h2 (by omega))
      have h2 := hq j (by omega) (by omega)
      unfold writes at h2
      rw [← h1]
      exact Classical.not_not.1 h2

/-- The state in the midst of a region. 'c': the first operation that changes what was there and has not run. -/
structure Mid (M0 : Mem) (ρ0 : Rho) (w0 : World) (N : Nat) (ops : Array Oper) (as : List AOper) (σs : Nat → Sig) (Hs : Nat → Heap) (listed : Array Bool) (c : Nat) (a : Act) (w : World) (M : Mem) (ρ : Rho) : Prop where
  lsize : listed.size = as.length
  shut : ∀ i o, listed.getD i false = true → ops[i]? = some o → ∀ d ∈ depsOf o, listed.getD d false = true
  cle : c ≤ as.length
  cfree : c < as.length → listed.getD c false = false ∧ writes Hs c
  cmin : ∀ i, i < c → listed.getD i false = false → ¬ writes Hs i
  step : StepW M0 ρ0 (Hs 0) w0 M ρ (Hs c) w
  ids : ∀ id, (Hs 0).next ≤ id → ((∃ p, ρ id = some p) ↔ ∃ i, listed.getD i false = true ∧ (Hs i).next ≤ id ∧ id < (Hs (i + 1)).next)
  tmp : ∀ t p, p ≤ as.length → (∀ j x, as[j]? = some x → x.dst = some t → (listed.getD j false = true ↔ j < p)) → VRel M ρ (σs p t) (a.tmps.getD t undef)
  any : ∀ t, ∃ v, VRel M ρ v (a.tmps.getD t undef)
  size : a.tmps.size = N
  defers : a.defers = []

theorem bef_listed {listed : Array Bool} (hs : ∀ i o, listed.getD i false = true → ops[i]? = some o → ∀ d ∈ depsOf o, listed.getD d false = true) {i j : Nat} (hb : Bef ops i j) : listed.getD j false = true → listed.getD i false = true := by
  induction hb with
  | dep h hd => intro hj; exact hs _ _ hj h _ hd
  | trans h1 h2 ih1 ih2 => intro hk; exact ih1 (ih2 hk)

theorem bef_ready {listed : Array Bool} (hs : ∀ i o, listed.getD i false = true → ops[i]? = some o → ∀ d ∈ depsOf o, listed.getD d false = true) {o : Oper} {i j : Nat} (hj : ops[j]? = some o) (hr : ∀ d ∈ depsOf o, listed.getD d false = true) (hb : Bef ops i j) : listed.getD i false = true := by
  cases hb with
  | dep h hd => rw [hj] at h; cases h; exact hr _ hd
  | trans h1 h2 =>
    rename_i k
    have key : ∀ {x y : Nat}, Bef ops x y → y = j → listed.getD x false = true := by
      intro x y hxy
      induction hxy with
      | dep h hd => intro e; subst e; rw [hj] at h; cases h; exact hr _ hd
      | trans h1 h2 ih1 ih2 => intro e; exact bef_listed hs h1 (ih2 e)
    exact bef_listed hs h1 (key h2 rfl)

theorem bef_lt (hd : DrawP ops as) {i j : Nat} (h : Bef ops i j) : i < j := by
  induction h with
  | dep h hd' => exact hd.back _ _ h _ hd'
  | trans _ _ h1 h2 => omega

theorem wp_exists {o : Oper} {a : Act} {w : World} {next : Act → World → Prop} (h : o.wp P a w next (fun _ _ _ => False)) : ∃ a' w', next a' w' := by
  unfold Oper.wp at h
  generalize (execOp a.eval o).run P w = r at h
  cases r with
  | ok n w' =>
    cases n <;> simp only [Oper.upon] at h <;> try (exact h.elim)
    case value v => exact ⟨_, _, h⟩
    case skip => exact ⟨_, _, h⟩
    case defer d => exact ⟨_, _, h⟩
    case enter f args =>
      obtain ⟨e, w'', fr, hR, _⟩ := h []
      cases e with
      | returned v => exact ⟨_, _, hR⟩
      | panicked c => exact hR.elim
      | outgrown => obtain ⟨_, _, hq⟩ := hR; exact hq.elim
    case row row args =>
      obtain ⟨v, w'', hR, _⟩ := h default []
      exact ⟨_, _, hR⟩
  | halt x w' =>
    cases x <;> simp only [Oper.upon] at h

theorem trOpers_get {solo : Nat → Bool} : ∀ (os : List Oper) (i : Nat) {as : List AOper}, trOpers P N ops solo i os = some as → as.length = os.length ∧ ∀ (j : Nat) (x : AOper), as[j]? = some x → ∃ o, os[j]? = some o ∧ trOper P N ops (solo (i + j)) o = some x := by
  intro os
  induction os with
  | nil => intro i as h; cases h; exact ⟨rfl, fun j x hx => by simp at hx⟩
  | cons o os ih =>
    intro i as h
    simp only [trOpers] at h
    split at h
    · rename_i a as' ha has'
      cases h
      obtain ⟨h1, h2⟩ := ih (i + 1) has'
      refine ⟨by simp [h1], fun j x hx => ?_⟩
      cases j with
      | zero => simp at hx; subst hx; exact ⟨o, rfl, ha⟩
      | succ j =>
        obtain ⟨o', e1, e2⟩ := h2 j x (by simpa using hx)
        exact ⟨o', by simpa using e1, by rw [← e2]; congr 2; omega⟩
    · cases h

/-- The text's own order, run beside: it shows what each heap of the trace may bear. -/
theorem ghost (hcall : CallOK P call) (has : ∀ (j : Nat) (x : AOper), as[j]? = some x → ∃ o s, ops[j]? = some o ∧ trOper P N ops s o = some x) (ht : Trace call as σs Hs) {M0 : Mem} {ρ0 : Rho} {w0 : World} (hR : Rel M0 ρ0 (Hs 0) w0) {tm : Array Value} (hT : TRel M0 ρ0 (σs 0) tm) (hN : tm.size = N) :
    ∀ j, j ≤ as.length → ∃ M ρ w tm', Step M0 ρ0 (Hs 0) w0 M ρ (Hs j) w ∧ TRel M ρ (σs j) tm' ∧ tm'.size = N := by
  intro j
  induction j with
  | zero => intro _; exact ⟨M0, ρ0, w0, tm, Step.refl hR, hT, hN⟩
  | succ j ih =>
    intro hj
    obtain ⟨M, ρ, w, tm', h1, h2, h3⟩ := ih (by omega)
    have hx := List.getElem?_eq_getElem (show j < as.length by omega)
    obtain ⟨o, s, ho, hto⟩ := has j _ hx
    obtain ⟨g1, g2, g3, g4, g5⟩ := trOper_parts hto
    rcases ht.step j _ hx with ⟨_, v, e1, _, e3⟩ | ⟨_, e1, e2⟩
    · have := oper_sound (P := P) hcall (o := o) (a := ⟨tm', []⟩) (σ := σs j) (Q := fun _ _ _ => False) g1 h1.rel (reads_of (a := ⟨tm', []⟩) h2) e1
        (next := fun a' w' => ∃ M' ρ', Step M0 ρ0 (Hs 0) w0 M' ρ' (Hs (j + 1)) w' ∧ TRel M' ρ' (σs (j + 1)) a'.tmps ∧ a'.tmps.size = N)
        (fun M' ρ' v' w' hs hv => ⟨M', ρ', h1.trans hs, by rw [e3, g3]; exact (h2.mono hs.mem hs.rho).put (a := ⟨tm', []⟩) (fun t ht => by rw [h3]; exact g5 t ht) hv, (put_size _ _ _).1.trans h3⟩)
      obtain ⟨a', w', M', ρ', k1, k2, k3⟩ := wp_exists this
      exact ⟨M', ρ', w', a'.tmps, k1, k2, k3⟩
    · refine ⟨M, ρ, w, ((⟨tm', []⟩ : Act).put o.dst undef).tmps, by rw [e1]; exact h1, ?_, (put_size _ _ _).1.trans h3⟩
      rw [e2, g3]
      exact h2.put (a := ⟨tm', []⟩) (fun t ht => by rw [h3]; exact g5 t ht) undef_rel

theorem VRel.both {M M' : Mem} {ρ ρ' : Rho} {v : AV} {d d' : Value} {b : Nat} (h : VRel M ρ v d) (h' : VRel M' ρ' v d') (hd : ∀ i p, ρ' i = some p → i < b) : VRel M (ρ.below b) v d := by
  induction h generalizing d' with
  | int k m => exact .int k m
  | bool b => exact .bool b
  | str s => exact .str s
  | nilp => exact .nilp
  | ptr off h =>
    cases h' with
    | ptr off h'' => exact .ptr off (by simp [Rho.below, hd _ _ h'']; exact h)
  | pv off o h hs hp hc ih => exact .pv off o h hs hp hc
  | nils => exact .nils
  | sl off len lo cap ex e h hlo hex hsz =>
    cases h' with
    | sl off len lo cap' ex e h'' _ _ _ => exact .sl off len lo cap ex e (by simp [Rho.below, hd _ _ h'']; exact h) hlo hex hsz
  | vec0 len cap ex a hex hl => exact .vec0 len cap ex a hex hl
  | vec len cap ex o h hs hp hc hex hl ih => exact .vec len cap ex o h hs hp hc hex hl
  | fn f h1 h2 hf hc ihf ihc =>
    cases h' with
    | fn f h1' h2' hf' hc' => exact .fn f h1 h2 (fun i g1 g2 => ihf i g1 g2 (hf' i g1 (by omega))) (fun i g1 g2 => ihc i g1 g2 (hc' i g1 (by omega)))
  | nilf => exact .nilf
  | mp h =>
    cases h' with
    | mp h'' => exact .mp (by simp [Rho.below, hd _ _ h'']; exact h)
  | nilm => exact .nilm
  | agg hl hp hc ih =>
    cases h' with
    | agg hl' hp' hc' => exact .agg hl hp fun i g1 g2 => ih i g1 g2 (hc' i g1 (by omega))
  | tup hl hc ih =>
    cases h' with
    | tup hl' hc' => exact .tup hl fun i g1 g2 => ih i g1 g2 (hc' i g1 (by omega))

/-- A heap of the trace, with the numbers that came later left out. -/
theorem Rel.restrict {M Mg : Mem} {ρ ρg : Rho} {H Hc : Heap} {w wg : World} (h : Rel M ρ Hc w) (hg : Rel Mg ρg H wg) (hobj : ∀ i, i < H.next → Hc.obj i = H.obj i) (hdef : ∀ i p, i < H.next → ρ i = some p → ∃ q, ρg i = some q) : Rel M (ρ.below H.next) H w := by
  have hb : ∀ i p, (ρ.below H.next) i = some p → i < H.next ∧ ρ i = some p := by
    intro i p hi
    unfold Rho.below at hi
    split at hi
    · exact ⟨by assumption, hi⟩
    · cases hi
  refine ⟨h.mem, fun i p hi => (hb i p hi).1, fun i b sz hi => ?_, fun i j b s t hij hi hj hl1 hl2 => ?_⟩
  · obtain ⟨h1, h2⟩ := hb i _ hi
    have ho := h.obj i b sz h2
    rw [hobj i h1] at ho
    obtain ⟨⟨b', sz'⟩, hq⟩ := hdef i _ h1 h2
    have hog := hg.obj i b' sz' hq
    cases hx : H.obj i with
    | dead => trivial
    | cells cs rel =>
      rw [hx] at ho hog
      obtain ⟨g1, c, T, mk, g2, g3, g4, g5, g6⟩ := ho
      obtain ⟨_, c', T', mk', _, _, k4, k5, k6⟩ := hog
      refine ⟨g1, c, T, mk, g2, g3, g4, g5, fun j q1 q2 => ⟨(g6 j q1 q2).1, ?_⟩⟩
      exact (g6 j q1 q2).2.both (k6 j q1 (by omega)).2 hg.dom
    | frz cs => rw [hx] at ho; exact ho
    | map es =>
      rw [hx] at ho hog
      obtain ⟨g1, ents, clock, g2, g3, g4⟩ := ho
      obtain ⟨_, ents', clock', _, k3, k4⟩ := hog
      refine ⟨g1, ents, clock, g2, g3, fun j q1 q2 => ?_⟩
      have a1 := k4 j q1 (by omega)
      exact ⟨(g4 j q1 q2).1.both a1.1 hg.dom, (g4 j q1 q2).2.both a1.2 hg.dom⟩
  · obtain ⟨h1, h2⟩ := hb i _ hi
    obtain ⟨h3, h4⟩ := hb j _ hj
    have := h.sep i j b s t hij h2 h4 (by rw [hobj i h1]; exact hl1) (by rw [hobj j h3]; exact hl2)
    rwa [hobj i h1] at this

theorem StepW.later {M0 M : Mem} {ρ0 ρ : Rho} {H0 H1 H2 : Heap} {w0 w : World} (s : StepW M0 ρ0 H0 w0 M ρ H1 w) (a : AStep H1 H2) (hq : H2.wc = H1.wc) (hdom : ∀ i p, ρ i = some p → i < H1.next) : StepW M0 ρ0 H0 w0 M ρ H2 w := by
  have hob := a.quiet hq
  obtain ⟨T, t1, t2, t3, t4, t5, t6⟩ := s.trk
  have hn := a.next
  have hns := s.next
  refine ⟨⟨s.rel.mem, fun i p hi => by have := hdom i p hi; omega, fun i b sz hi => ?_, fun i j b p q hij hi hj hl1 hl2 => ?_⟩, s.mem, s.rho, s.old, s.os, s.tape, s.output, s.size, by omega, a.base.trans s.base, by rw [hq]; exact s.wc, fun i hi => a.ws _ (s.wsub i hi), T, fun i hi hb => a.ws _ (t1 i hi hb), fun i hi => by rw [hq]; exact t2 i hi, fun i hi hT => ?_, t4, t5, t6⟩
  · rw [hob i (hdom i _ hi)]; exact s.rel.obj i b sz hi
  · rw [hob i (hdom i _ hi)] at hl1 ⊢
    rw [hob j (hdom j _ hj)] at hl2
    exact s.rel.sep i j b p q hij hi hj hl1 hl2
  · rw [hob i (by omega)]; exact t3 i hi hT
end draw
end Go.Mach
