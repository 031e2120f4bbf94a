/-
  Rows of elements in memory; what a call may write of its caller's. By an AI agent.
-/
import Derived.Test.YtlbihaiejbpjoaaGreatNb
set_option linter.unusedSimpArgs false
set_option linter.unusedVariables false
namespace Go.Mach

/-- A type of elements: its width, its values and their cells. -/
structure Ty (α : Type) where
  e : Nat
  agg : Bool
  val : α → AV
  cells : α → List AV
  len : ∀ a, (cells a).length = e
  pos : 0 < e
  flat : ∀ a, (val a).flat = some (cells a)
  one : ∀ a (p q : List AV), part agg e (p ++ (cells a ++ q)) p.length = some (val a)
  nn : ∀ a b n, (cells a).all (AV.noNew b (n + 1)) = true
  pure : ∀ a, (cells a).all AV.pure = true
  cell : ∀ a, (cells a).all AV.isCell = true

theorem put_at (p c q xs : List AV) (h : c.length = xs.length) : put (p ++ (c ++ q)) p.length xs = p ++ (xs ++ q) := by
  induction xs generalizing p c with
  | nil => match c, h with | [], _ => rfl
  | cons x xs ih =>
    match c, h with
    | y :: c, h =>
      have h' : c.length = xs.length := by simpa using h
      have e : (p ++ (y :: c ++ q)).set p.length x = (p ++ [x]) ++ (c ++ q) := by simp
      have l : p.length + 1 = (p ++ [x]).length := by simp
      rw [put, e, l, ih (p ++ [x]) c h']
      simp

namespace Ty
variable {α : Type} (t : Ty α)

def row (t : Ty α) : List α → List AV
  | [] => []
  | a :: l => t.cells a ++ row t l

theorem row_nil : t.row [] = [] := rfl
theorem row_cons (a : α) (l : List α) : t.row (a :: l) = t.cells a ++ t.row l := rfl
theorem row_append (l m : List α) : t.row (l ++ m) = t.row l ++ t.row m := by
  induction l with
  | nil => rfl
  | cons a l ih => simp [row_cons, ih]
theorem row_length (l : List α) : (t.row l).length = l.length * t.e := by
  induction l with
  | nil => simp [row_nil]
  | cons a l ih => simp [row_cons, ih, t.len, Nat.succ_mul]; omega
theorem row_all {p : AV → Bool} (h : ∀ a, (t.cells a).all p = true) (l : List α) : (t.row l).all p = true := by
  induction l with
  | nil => rfl
  | cons a l ih => simp [row_cons, List.all_append, h, ih]
theorem row_nn (l : List α) (b n : Nat) : (t.row l).all (AV.noNew b (n + 1)) = true := t.row_all (fun a => t.nn a b n) l
theorem row_pure (l : List α) : (t.row l).all AV.pure = true := t.row_all t.pure l
theorem row_cell (l : List α) : (t.row l).all AV.isCell = true := t.row_all t.cell l
theorem row_split (l : List α) (k : Nat) (h : k ≤ l.length) : t.row l = t.row (l.take k) ++ t.row (l.drop k) := by
  rw [← t.row_append, List.take_append_drop]
theorem row_take_length (l : List α) (k : Nat) (h : k ≤ l.length) : (t.row (l.take k)).length = k * t.e := by
  rw [t.row_length, List.length_take, Nat.min_eq_left h]
theorem row_drop (l : List α) (k : Nat) : (t.row l).drop (k * t.e) = t.row (l.drop k) := by
  by_cases h : k ≤ l.length
  · rw [t.row_split l k h, List.drop_append, t.row_take_length l k h]
    simp [t.row_take_length l k h]
  · rw [List.drop_eq_nil_of_le (as := l) (by omega), List.drop_eq_nil_of_le, row_nil]
    rw [t.row_length]; exact Nat.mul_le_mul_right _ (by omega)
theorem row_take (l : List α) (k : Nat) : (t.row l).take (k * t.e) = t.row (l.take k) := by
  by_cases h : k ≤ l.length
  · rw [t.row_split l k h, List.take_append, t.row_take_length l k h]
    simp [t.row_take_length l k h, List.take_of_length_le]
  · rw [List.take_of_length_le (l := l) (by omega), List.take_of_length_le]
    rw [t.row_length]; exact Nat.mul_le_mul_right _ (by omega)
theorem row_part (l : List α) (i : Nat) (h : i < l.length) : part t.agg t.e (t.row l) (i * t.e) = some (t.val l[i]) := by
  rw [t.row_split l i (by omega), List.drop_eq_getElem_cons h, row_cons, ← t.row_take_length l i (by omega)]
  exact t.one _ _ _
theorem row_put (l : List α) (i : Nat) (a : α) (h : i < l.length) : put (t.row l) (i * t.e) (t.cells a) = t.row (l.set i a) := by
  rw [t.row_split l i (by omega), List.drop_eq_getElem_cons h, row_cons, ← t.row_take_length l i (by omega), put_at _ _ _ _ (by simp [t.len])]
  rw [List.set_eq_take_append_cons_drop, if_pos h, row_append, row_cons]
theorem row_puts (l m : List α) (i : Nat) (h : i + m.length ≤ l.length) : put (t.row l) (i * t.e) (t.row m) = t.row (l.take i ++ m ++ l.drop (i + m.length)) := by
  rw [t.row_split l i (by omega), ← t.row_take_length l i (by omega)]
  rw [t.row_split (l.drop i) m.length (by simp; omega), put_at _ _ _ _ (by rw [t.row_length, t.row_length]; congr 1; simp; omega)]
  simp [row_append, List.append_assoc]

/-! ### The same of an array -/
def arr (d : Array α) : List AV := t.row d.toList
theorem arr_length (d : Array α) : (t.arr d).length = d.size * t.e := by simp [arr, row_length]
theorem arr_nn (d : Array α) (b n : Nat) : (t.arr d).all (AV.noNew b (n + 1)) = true := t.row_nn _ _ _
theorem arr_part [Inhabited α] (d : Array α) (i : Nat) (h : i < d.size) : part t.agg t.e (t.arr d) (i * t.e) = some (t.val d[i]!) := by
  rw [arr, t.row_part _ i (by simpa using h)]
  simp [h]
theorem arr_put (d : Array α) (i : Nat) (a : α) (h : i < d.size) : put (t.arr d) (i * t.e) (t.cells a) = t.arr (d.setIfInBounds i a) := by
  rw [arr, arr, t.row_put _ i a (by simpa using h)]
  simp
end Ty

/-! ### What a run has written -/
/-- At most the object id (of the caller's) is another now: it is o. New objects may have come. -/
structure Fx (H H' : Heap) (id : Nat) (o : AObj) : Prop where
  lt : id < H.next
  obj : ∀ i, i < H.next → H'.obj i = if i = id then o else H.obj i
  next : H.next ≤ H'.next
  base : H'.base = H.base
  wsI : ∀ i ∈ H'.ws, i ∈ H.ws ∨ (i = id ∧ id < H.base)
  sub : ∀ i ∈ H.ws, i ∈ H'.ws
  mod : id ∈ H'.ws ∨ H.base ≤ id ∨ H.obj id = o

/-- Just that object, and nothing new. -/
structure Wr (H H' : Heap) (id : Nat) (o : AObj) : Prop extends Fx H H' id o where
  same : ∀ i, H.next ≤ i → H'.obj i = H.obj i
  nxt : H'.next = H.next

theorem Fx.refl {H : Heap} {id : Nat} {o : AObj} (hl : id < H.next) (h : H.obj id = o) : Fx H H id o :=
  ⟨hl, fun i _ => by split <;> simp_all, Nat.le_refl _, rfl, fun i h => .inl h, fun i h => h, .inr (.inr h)⟩
theorem Wr.refl {H : Heap} {id : Nat} {o : AObj} (hl : id < H.next) (h : H.obj id = o) : Wr H H id o := ⟨.refl hl h, fun _ _ => rfl, rfl⟩
theorem Fx.at {H H' : Heap} {id : Nat} {o : AObj} (a : Fx H H' id o) : H'.obj id = o := by rw [a.obj id a.lt, if_pos rfl]
theorem Fx.ne {H H' : Heap} {id i : Nat} {o : AObj} (a : Fx H H' id o) (h : i < H.next) (hne : i ≠ id) : H'.obj i = H.obj i := by rw [a.obj i h, if_neg hne]
theorem Fx.trans {H H1 H2 : Heap} {id : Nat} {o1 o2 : AObj} (a : Fx H H1 id o1) (b : Fx H1 H2 id o2) : Fx H H2 id o2 where
  lt := a.lt
  obj i hi := by
    rw [b.obj i (Nat.lt_of_lt_of_le hi a.next), a.obj i hi]
    split <;> rfl
  next := Nat.le_trans a.next b.next
  base := b.base.trans a.base
  wsI i hi := by
    rcases b.wsI i hi with h | ⟨h1, h2⟩
    · exact a.wsI i h
    · exact .inr ⟨h1, by rw [← a.base]; exact h2⟩
  sub i hi := b.sub i (a.sub i hi)
  mod := by
    rcases b.mod with h | h | h
    · exact .inl h
    · exact .inr (.inl (by rw [← a.base]; exact h))
    · rcases a.mod with k | k | k
      · exact .inl (b.sub _ k)
      · exact .inr (.inl k)
      · rw [a.at] at h; exact .inr (.inr (by rw [k, h]))
theorem Wr.trans {H H1 H2 : Heap} {id : Nat} {o1 o2 : AObj} (a : Wr H H1 id o1) (b : Wr H1 H2 id o2) : Wr H H2 id o2 :=
  ⟨a.toFx.trans b.toFx, fun i hi => (b.same i (by rw [a.nxt]; exact hi)).trans (a.same i hi), b.nxt.trans a.nxt⟩
theorem Wr.set {H : Heap} {id : Nat} {o : AObj} (hl : id < H.next) : Wr H (H.set id o) id o where
  lt := hl
  obj i _ := rfl
  next := Nat.le_refl _
  base := rfl
  wsI i hi := by
    simp only [Heap.set] at hi
    split at hi
    · rename_i h
      rcases List.mem_cons.1 hi with rfl | hi
      · exact .inr ⟨rfl, h⟩
      · exact .inl hi
    · exact .inl hi
  sub i hi := by simp only [Heap.set]; split <;> simp [hi]
  mod := by
    by_cases h : id < H.base
    · exact .inl (by simp [Heap.set, h])
    · exact .inr (.inl (by omega))
  same i hi := by simp only [Heap.set, upd]; rw [if_neg (by omega)]
  nxt := rfl
/-- Another object of the run's own is written. -/
theorem Fx.own {H H' H2 : Heap} {id j : Nat} {o o2 : AObj} (a : Fx H H' id o) (b : Fx H' H2 j o2) (hj : H.next ≤ j) (hb : H.base ≤ j) : Fx H H2 id o where
  lt := a.lt
  obj i hi := by rw [b.obj i (Nat.lt_of_lt_of_le hi a.next), if_neg (by omega), a.obj i hi]
  next := Nat.le_trans a.next b.next
  base := b.base.trans a.base
  wsI i hi := by
    rcases b.wsI i hi with h | ⟨h1, h2⟩
    · exact a.wsI i h
    · rw [a.base] at h2; omega
  sub i hi := b.sub i (a.sub i hi)
  mod := by
    rcases a.mod with k | k | k
    · exact .inl (b.sub _ k)
    · exact .inr (.inl k)
    · exact .inr (.inr k)
theorem Fx.new {H H' : Heap} {id : Nat} {o o2 : AObj} (a : Fx H H' id o) : Fx H (H'.new o2) id o where
  lt := a.lt
  obj i hi := by
    have := a.next
    simp only [Heap.new, upd]; rw [if_neg (by omega), a.obj i hi]
  next := by have := a.next; simp only [Heap.new]; omega
  base := a.base
  wsI := a.wsI
  sub := a.sub
  mod := a.mod

theorem foldr_upd' (f : Nat → AObj) (g : Nat → AObj) (ws : List Nat) (j : Nat) : ws.foldr (fun i o => upd o i (f i)) g j = if j ∈ ws then f j else g j := by
  induction ws with
  | nil => simp
  | cons i ws ih =>
    simp only [List.foldr_cons, upd, List.mem_cons]
    by_cases h : j = i
    · simp [h]
    · simp [h, ih]

/-- The caller's heap behind a call that has written one of its objects. -/
theorem Fx.wrap {H H3 : Heap} {id : Nat} {o : AObj} {v : AV} (a : Fx H.begin H3 id o) (hv : v.noNew H.next 4 = true) (hn : o.noNew H.next = true) (hc : o.clean H.next = o) : ∃ H', wrapA H v H3 = (v, H') ∧ Wr H H' id o := by
  have hlt : id < H.next := a.lt
  have hws : ∀ i ∈ H3.ws, i = id := fun i hi => by
    rcases a.wsI i hi with h | h
    · cases h
    · exact h.1
  have hob : ∀ i, i < H.next → H3.obj i = if i = id then o else H.obj i := a.obj
  unfold wrapA
  split
  · rename_i h0
    refine ⟨H, by simp [hv], .refl hlt ?_⟩
    rcases a.mod with h | h | h
    · rw [h0] at h; cases h
    · have : H.next ≤ id := h
      omega
    · exact h
  · rename_i ws h0
    have hat : H3.obj id = o := by rw [hob id hlt, if_pos rfl]
    have hall : (H3.ws).all (fun i => (H3.obj i).noNew H.next) = true := by
      rw [List.all_eq_true]; intro i hi; rw [hws i hi, hat]; exact hn
    have hid : id ∈ H3.ws := by
      cases hw : H3.ws with
      | nil => exact (h0 hw).elim
      | cons x l => have := hws x (by rw [hw]; simp); rw [this]; simp
    rw [hv, hall]
    refine ⟨_, rfl, ⟨⟨hlt, fun i hi => ?_, Nat.le_refl _, rfl, fun i hi => ?_, fun i hi => ?_, ?_⟩, fun i hi => ?_, rfl⟩⟩
    · refine (foldr_upd' _ _ _ _).trans ?_
      by_cases h : i = id
      · subst h; rw [if_pos hid, if_pos rfl, hat, hc]
      · rw [if_neg (fun k => h (hws i k)), if_neg h]
    · rcases List.mem_append.1 hi with h | h
      · rw [List.mem_filter] at h
        have := hws i h.1
        subst this
        exact .inr ⟨rfl, by simpa using h.2⟩
      · exact .inl h
    · exact List.mem_append.2 (.inr hi)
    · by_cases h : id < H.base
      · exact .inl (List.mem_append.2 (.inl (List.mem_filter.2 ⟨hid, by simpa using h⟩)))
      · exact .inr (.inl (by omega))
    · refine (foldr_upd' _ _ _ _).trans ?_
      rw [if_neg (fun k => by have := hws i k; omega)]

theorem Fx.wrapA {α : Type} {t : Ty α} {H H3 : Heap} {id : Nat} {d : Array α} {v : AV} (a : Fx H.begin H3 id (.cells (t.arr d) none)) (hv : v.noNew H.next 4 = true) : ∃ H', wrapA H v H3 = (v, H') ∧ Wr H H' id (.cells (t.arr d) none) :=
  a.wrap hv (t.arr_nn d _ _) rfl

theorem li_eq' {call : CallFn} {c : ACode} {s : List Jtm} {k : KF} {σ : Sig} {H : Heap} (x : Jtm) (hx : x = .inLoop c) : li call c s k σ H = gi call c (x :: s) k σ H := by subst hx; exact li_eq

theorem wrap_bb {H : Heap} {b : Bool} : wrapA H (.bool b) H.begin = (.bool b, H) := wrap_begin rfl
theorem wrap_bi {H : Heap} {k : IntKind} {n : Int} : wrapA H (.int k n) H.begin = (.int k n, H) := wrap_begin rfl
theorem wrap_b0 {H : Heap} : wrapA H (.tup []) H.begin = (.tup [], H) := wrap_begin rfl
theorem wrap_bn {H : Heap} : wrapA H .nils H.begin = (.nils, H) := wrap_begin rfl
theorem wrap_bv {H : Heap} {n : Nat} {ex : Bool} {l : List AV} : wrapA H (.vec n ex l) H.begin = (.vec n ex l, H) := wrap_begin rfl
attribute [simp] wrap_bb wrap_bi wrap_b0 wrap_bn wrap_bv

/-! ### Answers -/
def Res (x : R) (P : AV → Heap → Prop) : Prop := ∃ v H, x = some (v, H) ∧ P v H
theorem Res.mk {v : AV} {H : Heap} {P : AV → Heap → Prop} (h : P v H) : Res (some (v, H)) P := ⟨v, H, rfl, h⟩
theorem Res.enter {T : Nat → Option AFn} {f : Nat} {fd : AFn} {args : List AV} {H : Heap} {P : AV → Heap → Prop} (hf : T f = some fd) (hl : args.length ≤ fd.ntmps) (hz : (fd.fzA || fd.fzR) = false ∨ frzL (frz H.base 6) args H = some (args, H)) (h : Res (enterI T fd H args) P) : Res (callI T f args H) P := by
  obtain ⟨v, H', h, hp⟩ := h
  exact ⟨v, H', callI_enter hf hl hz h, hp⟩
theorem Res.enterR {T : Nat → Option AFn} {f : Nat} {fd : AFn} {args : List AV} {H H1 : Heap} {P : AV → Heap → Prop} (hf : T f = some fd) (hl : args.length ≤ fd.ntmps) (hz : fd.fzA = false) (hr : relaxL fd.fzR args H = H1) (h : Res (enterI T fd H1 args) P) : Res (callI T f args H) P := by
  obtain ⟨v, H', h, hp⟩ := h
  exact ⟨v, H', callI_relax hf hl hz hr h, hp⟩
theorem Res.relaxed {T : Nat → Option AFn} {f : Nat} {fd : AFn} {id off len lo e r : Nat} {ex : Bool} {cs : List AV} {H : Heap} {P : AV → Heap → Prop} (hf : T f = some fd) (hz : fd.fzA = false) (hr : fd.fzR = true) (ho : H.obj id = .cells cs (some r)) (h1 : H.base ≤ id) (h2 : H.base ≤ r)
    (h : Res (callI T f [.sl id off len lo ex e] ((H.set r .dead).set id (.cells cs none))) P) : Res (callI T f [.sl id off len lo ex e] H) P := by
  obtain ⟨v, H', h, hp⟩ := h
  refine ⟨v, H', callI_relax2 hf hz (H1 := (H.set r .dead).set id (.cells cs none)) ?_ ?_ h, hp⟩
  · rw [hr]; simp only [relaxL, if_true, List.foldl_cons, List.foldl_nil, relax, ho, h1, h2, and_self]
  · rw [hr]; simp only [relaxL, if_true, List.foldl_cons, List.foldl_nil, relax, Heap.set, upd, if_true]
theorem frz_t0 {b n : Nat} {H : Heap} : frz b (n + 1) H (.tup []) = some (.tup [], H) := rfl
theorem relax_none {H : Heap} {b : Bool} {id off len lo e : Nat} {ex : Bool} {cs : List AV} {l : List AV} (h : H.obj id = .cells cs none) (hl : relaxL b l H = H) : relaxL b (.sl id off len lo ex e :: l) H = H := by
  cases b with
  | false => rfl
  | true =>
    have e : relax H (.sl id off len lo ex e) = H := by simp only [relax, h]
    simp only [relaxL, if_true, List.foldl_cons, e] at hl ⊢
    exact hl
theorem Res.of {T : Nat → Option AFn} {n f : Nat} {args : List AV} {H H' : Heap} {v : AV} {P : AV → Heap → Prop} (h : evalCall T n f args H = some (v, H')) (hp : P v H') : Res (callI T f args H) P := ⟨v, H', callI_of h, hp⟩
theorem Res.mono {x : R} {P Q : AV → Heap → Prop} (h : Res x P) (hq : ∀ v H, P v H → Q v H) : Res x Q := by
  obtain ⟨v, H', h, hp⟩ := h
  exact ⟨v, H', h, hq _ _ hp⟩

theorem Res.hide {x : R} {P : AV → Heap → Prop} (h : ∀ Q : AV → Heap → Prop, (∀ v H, P v H → Q v H) → Res x Q) : Res x P := h P fun _ _ h => h
theorem Res.call {call : CallFn} {d : Option Nat} {b : Bool} {wc : Nat} {l : List AOper} {s : List Jtm} {k : KF} {σ : Sig} {x : R} {P Q : AV → Heap → Prop} (h : Res x P) (hn : ∀ v H', P v H' → Res (afterHI call d b wc l s k σ (some (v, H'))) Q) : Res (afterHI call d b wc l s k σ x) Q := by
  obtain ⟨v, H', h, hp⟩ := h
  rw [h]; exact hn v H' hp

/-! ### Operations on numbers -/
def andK (k : IntKind) (a b : Int) : Int := k.wrap ((BitVec.ofInt k.bits a &&& BitVec.ofInt k.bits b).toNat : Int)
def orK (k : IntKind) (a b : Int) : Int := k.wrap ((BitVec.ofInt k.bits a ||| BitVec.ofInt k.bits b).toNat : Int)
def xorK (k : IntKind) (a b : Int) : Int := k.wrap ((BitVec.ofInt k.bits a ^^^ BitVec.ofInt k.bits b).toNat : Int)
def andNotK (k : IntKind) (a b : Int) : Int := k.wrap ((BitVec.ofInt k.bits a &&& ~~~ BitVec.ofInt k.bits b).toNat : Int)
def shlK (k : IntKind) (a b : Int) : Int := k.wrap (a * 2 ^ (min b.toNat k.bits))
def shrK (k : IntKind) (a b : Int) : Int := a.fdiv (2 ^ (min b.toNat k.bits))
section
variable {k k' : IntKind} {a b : Int}
theorem bin_add : binA .add (.int k a) (.int k b) = some (.int k (k.wrap (a + b))) := if_pos rfl
theorem bin_sub : binA .sub (.int k a) (.int k b) = some (.int k (k.wrap (a - b))) := if_pos rfl
theorem bin_mul : binA .mul (.int k a) (.int k b) = some (.int k (k.wrap (a * b))) := if_pos rfl
theorem bin_quo : binA .quo (.int k a) (.int k b) = if b = 0 then none else some (.int k (k.wrap (a.tdiv b))) := if_pos rfl
theorem bin_rem : binA .rem (.int k a) (.int k b) = if b = 0 then none else some (.int k (a.tmod b)) := if_pos rfl
theorem bin_and : binA .and (.int k a) (.int k b) = some (.int k (andK k a b)) := if_pos rfl
theorem bin_or : binA .or (.int k a) (.int k b) = some (.int k (orK k a b)) := if_pos rfl
theorem bin_xor : binA .xor (.int k a) (.int k b) = some (.int k (xorK k a b)) := if_pos rfl
theorem bin_andNot : binA .andNot (.int k a) (.int k b) = some (.int k (andNotK k a b)) := if_pos rfl
theorem bin_eql : binA .eql (.int k a) (.int k b) = some (.bool (a == b)) := if_pos rfl
theorem bin_neq : binA .neq (.int k a) (.int k b) = some (.bool (!(a == b))) := if_pos rfl
theorem bin_lss : binA .lss (.int k a) (.int k b) = some (.bool (decide (a < b))) := if_pos rfl
theorem bin_leq : binA .leq (.int k a) (.int k b) = some (.bool (decide (a ≤ b))) := if_pos rfl
theorem bin_gtr : binA .gtr (.int k a) (.int k b) = some (.bool (decide (b < a))) := if_pos rfl
theorem bin_geq : binA .geq (.int k a) (.int k b) = some (.bool (decide (b ≤ a))) := if_pos rfl
theorem bin_shl : binA .shl (.int k a) (.int k' b) = if b < 0 then none else some (.int k (shlK k a b)) := rfl
theorem bin_shr : binA .shr (.int k a) (.int k' b) = if b < 0 then none else some (.int k (shrK k a b)) := rfl
end
theorem bin_seql {a b : ByteArray} : binA .eql (.str a) (.str b) = some (.bool (a.toList == b.toList)) := rfl
attribute [simp] bin_add bin_sub bin_mul bin_quo bin_rem bin_and bin_or bin_xor bin_andNot bin_eql bin_neq bin_lss bin_leq bin_gtr bin_geq bin_shl bin_shr

/-! ### Numbers -/
/-- One less, down to -1. -/
def pr (k : Nat) : Int := if k = 0 then -1 else ((k - 1 : Nat) : Int)
theorem pr_zero : pr 0 = -1 := rfl
theorem pr_succ {k : Nat} : pr (k + 1) = (k : Int) := rfl
theorem wrap_nat {n : Nat} (h : n < 9223372036854775808) : IntKind.i64.wrap (n : Int) = n := wrap_int (by omega) (by omega)
theorem wrap_add {a b : Nat} (h : a + b < 9223372036854775808) : IntKind.i64.wrap ((a : Int) + b) = ((a + b : Nat) : Int) := by rw [wrap_int] <;> omega
theorem wrap_add1 {a : Nat} (h : a + 1 < 9223372036854775808) : IntKind.i64.wrap ((a : Int) + 1) = ((a + 1 : Nat) : Int) := wrap_add (b := 1) h
theorem wrap_sub {a b : Nat} (h : b ≤ a) (h2 : a < 9223372036854775808) : IntKind.i64.wrap ((a : Int) - b) = ((a - b : Nat) : Int) := by rw [wrap_int] <;> omega
theorem wrap_sub1 {a : Nat} (h : 1 ≤ a) (h2 : a < 9223372036854775808) : IntKind.i64.wrap ((a : Int) - 1) = ((a - 1 : Nat) : Int) := wrap_sub (b := 1) h h2
theorem wrap_mul {a b : Nat} (h : a * b < 9223372036854775808) : IntKind.i64.wrap ((a : Int) * b) = ((a * b : Nat) : Int) := by
  rw [← Int.natCast_mul]; exact wrap_nat h
theorem wrap_mul1 {a : Nat} (h : a * 1 < 9223372036854775808) : IntKind.i64.wrap ((a : Int) * 1) = ((a * 1 : Nat) : Int) := wrap_mul (b := 1) h
theorem wrap_mulr1 {a : Nat} (h : 1 * a < 9223372036854775808) : IntKind.i64.wrap (1 * (a : Int)) = ((1 * a : Nat) : Int) := wrap_mul (a := 1) h
theorem wrap_div1 {a : Nat} (h : a < 9223372036854775808) : IntKind.i64.wrap ((a : Int).tdiv 1) = ((a / 1 : Nat) : Int) := wrap_nat (n := a / 1) (Nat.lt_of_le_of_lt (Nat.div_le_self _ _) h)
theorem wrap_mul2 {a : Nat} (h : a * 2 < 9223372036854775808) : IntKind.i64.wrap ((a : Int) * 2) = ((a * 2 : Nat) : Int) := wrap_mul (b := 2) h
theorem wrap_mulr2 {a : Nat} (h : 2 * a < 9223372036854775808) : IntKind.i64.wrap (2 * (a : Int)) = ((2 * a : Nat) : Int) := wrap_mul (a := 2) h
theorem wrap_div2 {a : Nat} (h : a < 9223372036854775808) : IntKind.i64.wrap ((a : Int).tdiv 2) = ((a / 2 : Nat) : Int) := wrap_nat (n := a / 2) (Nat.lt_of_le_of_lt (Nat.div_le_self _ _) h)
theorem wrap_mul3 {a : Nat} (h : a * 3 < 9223372036854775808) : IntKind.i64.wrap ((a : Int) * 3) = ((a * 3 : Nat) : Int) := wrap_mul (b := 3) h
theorem wrap_mulr3 {a : Nat} (h : 3 * a < 9223372036854775808) : IntKind.i64.wrap (3 * (a : Int)) = ((3 * a : Nat) : Int) := wrap_mul (a := 3) h
theorem wrap_div3 {a : Nat} (h : a < 9223372036854775808) : IntKind.i64.wrap ((a : Int).tdiv 3) = ((a / 3 : Nat) : Int) := wrap_nat (n := a / 3) (Nat.lt_of_le_of_lt (Nat.div_le_self _ _) h)
theorem wrap_mul4 {a : Nat} (h : a * 4 < 9223372036854775808) : IntKind.i64.wrap ((a : Int) * 4) = ((a * 4 : Nat) : Int) := wrap_mul (b := 4) h
theorem wrap_mulr4 {a : Nat} (h : 4 * a < 9223372036854775808) : IntKind.i64.wrap (4 * (a : Int)) = ((4 * a : Nat) : Int) := wrap_mul (a := 4) h
theorem wrap_div4 {a : Nat} (h : a < 9223372036854775808) : IntKind.i64.wrap ((a : Int).tdiv 4) = ((a / 4 : Nat) : Int) := wrap_nat (n := a / 4) (Nat.lt_of_le_of_lt (Nat.div_le_self _ _) h)
theorem wrap_mul8 {a : Nat} (h : a * 8 < 9223372036854775808) : IntKind.i64.wrap ((a : Int) * 8) = ((a * 8 : Nat) : Int) := wrap_mul (b := 8) h
theorem wrap_mulr8 {a : Nat} (h : 8 * a < 9223372036854775808) : IntKind.i64.wrap (8 * (a : Int)) = ((8 * a : Nat) : Int) := wrap_mul (a := 8) h
theorem wrap_div8 {a : Nat} (h : a < 9223372036854775808) : IntKind.i64.wrap ((a : Int).tdiv 8) = ((a / 8 : Nat) : Int) := wrap_nat (n := a / 8) (Nat.lt_of_le_of_lt (Nat.div_le_self _ _) h)
theorem wrap_ediv2 {a : Nat} (h : a < 9223372036854775808) : IntKind.i64.wrap ((a : Int) / 2) = ((a / 2 : Nat) : Int) := wrap_nat (n := a / 2) (Nat.lt_of_le_of_lt (Nat.div_le_self _ _) h)
theorem wrap_ediv4 {a : Nat} (h : a < 9223372036854775808) : IntKind.i64.wrap ((a : Int) / 4) = ((a / 4 : Nat) : Int) := wrap_nat (n := a / 4) (Nat.lt_of_le_of_lt (Nat.div_le_self _ _) h)
theorem wrap_ediv8 {a : Nat} (h : a < 9223372036854775808) : IntKind.i64.wrap ((a : Int) / 8) = ((a / 8 : Nat) : Int) := wrap_nat (n := a / 8) (Nat.lt_of_le_of_lt (Nat.div_le_self _ _) h)
theorem nat_lt0 {n : Nat} : ((n : Int) < 0) = False := eq_false (by omega)
attribute [simp] nat_lt0
theorem wrap_pr {a : Nat} (h : a < 9223372036854775808) : IntKind.i64.wrap ((a : Int) - 1) = pr a := by
  unfold pr; split
  · subst_vars; decide
  · rw [wrap_sub1 (by omega) h]
theorem dec_true {p : Prop} [Decidable p] (h : p) : decide p = true := decide_eq_true h
theorem dec_false {p : Prop} [Decidable p] (h : ¬ p) : decide p = false := decide_eq_false h
theorem beqI_true {a b : Int} (h : a = b) : (a == b) = true := by simpa using h
theorem beqI_false {a b : Int} (h : a ≠ b) : (a == b) = false := by simpa using h
theorem iaddr_sl {e id off len lo e' : Nat} {ex : Bool} {k : IntKind} {i : Nat} (h : i < len) : iaddrA none e (.sl id off len lo ex e') (.int k i) = some (.ptr id (off + i * e)) := by
  simp only [iaddrA]; rw [if_pos (by omega)]; simp
theorem eqR {α : Sort _} {a b : α} (h : a = b) : a = b := h
/-- The rules for numbers in one. -/
theorem nums : (∀ (p : Prop) [Decidable p], p → decide p = true) ∧ (∀ (p : Prop) [Decidable p], ¬ p → decide p = false) ∧ (∀ (a b : Int), a = b → (a == b) = true) ∧ (∀ (a b : Int), a ≠ b → (a == b) = false) ∧
    (∀ (n : Nat), n < 9223372036854775808 → IntKind.i64.wrap (n : Int) = n) ∧ (∀ (a b : Nat), a + b < 9223372036854775808 → IntKind.i64.wrap ((a : Int) + b) = ((a + b : Nat) : Int)) ∧ (∀ (a : Nat), a + 1 < 9223372036854775808 → IntKind.i64.wrap ((a : Int) + 1) = ((a + 1 : Nat) : Int)) ∧
    (∀ (a b : Nat), b ≤ a → a < 9223372036854775808 → IntKind.i64.wrap ((a : Int) - b) = ((a - b : Nat) : Int)) ∧ (∀ (a : Nat), 1 ≤ a → a < 9223372036854775808 → IntKind.i64.wrap ((a : Int) - 1) = ((a - 1 : Nat) : Int)) ∧
    (∀ (a b : Nat), a * b < 9223372036854775808 → IntKind.i64.wrap ((a : Int) * b) = ((a * b : Nat) : Int)) ∧ (∀ (a : Nat), a * 1 < 9223372036854775808 → IntKind.i64.wrap ((a : Int) * 1) = ((a * 1 : Nat) : Int)) ∧ (∀ (a : Nat), a * 2 < 9223372036854775808 → IntKind.i64.wrap ((a : Int) * 2) = ((a * 2 : Nat) : Int)) ∧ (∀ (a : Nat), a * 3 < 9223372036854775808 → IntKind.i64.wrap ((a : Int) * 3) = ((a * 3 : Nat) : Int)) ∧
    (∀ (a : Nat), 2 * a < 9223372036854775808 → IntKind.i64.wrap (2 * (a : Int)) = ((2 * a : Nat) : Int)) ∧ (∀ (a : Nat), a < 9223372036854775808 → IntKind.i64.wrap ((a : Int).tdiv 2) = ((a / 2 : Nat) : Int)) ∧ (∀ (a : Nat), a < 9223372036854775808 → IntKind.i64.wrap ((a : Int).tdiv 4) = ((a / 4 : Nat) : Int)) ∧ (∀ (a : Nat), a < 9223372036854775808 → IntKind.i64.wrap ((a : Int).tdiv 8) = ((a / 8 : Nat) : Int)) ∧
    (∀ (a : Nat), a < 9223372036854775808 → IntKind.i64.wrap ((a : Int) / 2) = ((a / 2 : Nat) : Int)) ∧ (∀ (a : Nat), a < 9223372036854775808 → IntKind.i64.wrap ((a : Int) / 4) = ((a / 4 : Nat) : Int)) ∧ (∀ (a : Nat), a < 9223372036854775808 → IntKind.i64.wrap ((a : Int) / 8) = ((a / 8 : Nat) : Int)) ∧
    (∀ (e id off len lo e' : Nat) (ex : Bool) (k : IntKind) (i : Nat), i < len → iaddrA none e (.sl id off len lo ex e') (.int k i) = some (.ptr id (off + i * e))) ∧ (∀ (x : AV) (l : List AV), (x :: l)[0]? = some x) ∧ (∀ (x : AV) (l : List AV) (i : Nat), (x :: l)[i + 1]? = l[i]?) ∧
    (∀ (b : Bool), unA .not (.bool b) = some (.bool (!b))) ∧ (∀ (T : Nat → Option AFn) (fd : AFn) (H1 : Heap) (args : List AV), enterI T fd H1 args = gi (callI T) fd.body [] (fink fd.res fd.fzR H1) (sigOf args) H1.begin) :=
  ⟨fun _ _ h => dec_true h, fun _ _ h => dec_false h, fun _ _ h => beqI_true h, fun _ _ h => beqI_false h, fun _ h => wrap_nat h, fun _ _ h => wrap_add h, fun _ h => wrap_add1 h, fun _ _ h k => wrap_sub h k, fun _ h k => wrap_sub1 h k, fun _ _ h => wrap_mul h, fun _ h => wrap_mul1 h, fun _ h => wrap_mul2 h, fun _ h => wrap_mul3 h, fun _ h => wrap_mulr2 h,
    fun _ h => wrap_div2 h, fun _ h => wrap_div4 h, fun _ h => wrap_div8 h, fun _ h => wrap_ediv2 h, fun _ h => wrap_ediv4 h, fun _ h => wrap_ediv8 h, fun _ _ _ _ _ _ _ _ _ h => iaddr_sl h, fun _ _ => rfl, fun _ _ _ => rfl, fun _ => rfl, fun _ _ _ _ => rfl⟩
end Go.Mach
