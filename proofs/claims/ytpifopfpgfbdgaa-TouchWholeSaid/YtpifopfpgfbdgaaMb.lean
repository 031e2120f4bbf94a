/-
  How a value and a heap of the machine stand to the model's values and world. By an AI agent.
-/
import Derived.Test.YtpifopfpgfbdgaaMa
set_option linter.unusedSimpArgs false
set_option linter.unusedVariables false
namespace Go.Mach

abbrev Mem := Nat → Option Obj
abbrev Rho := Nat → Option (Nat × Nat)
def noRho : Rho := fun _ => none

/-- 'VRel M ρ v d': the machine's value v stands for the model's value d; M: the frozen blocks; ρ: the block of each live object, and its size. -/
inductive VRel (M : Mem) : Rho → AV → Value → Prop
  | int {ρ : Rho} (k : IntKind) (n : Int) : VRel M ρ (.int k n) (.int k n)
  | bool {ρ : Rho} (b : Bool) : VRel M ρ (.bool b) (.bool b)
  | str {ρ : Rho} (s : ByteArray) : VRel M ρ (.str s) (.string s)
  | nilp {ρ : Rho} : VRel M ρ .nilp (.pointer none)
  | ptr {ρ : Rho} {id : Nat} (off : Nat) {b sz : Nat} (h : ρ id = some (b, sz)) : VRel M ρ (.ptr id off) (.pointer (some ⟨b, off, none⟩))
  | pv {ρ : Rho} {cs : List AV} (off o : Nat) {b : Nat} {c : Array Value} {T : TypeId} {mk : Nat × Nat} (h : M b = some (.cells c T mk)) (hs : o + cs.length ≤ c.size)
      (hp : ∀ i (h1 : i < cs.length), cs[i].isCell = true) (hc : ∀ i (h1 : i < cs.length) (h2 : o + i < c.size), VRel M noRho cs[i] c[o + i]) :
      VRel M ρ (.pv cs off) (.pointer (some ⟨b, o + off, none⟩))
  | nils {ρ : Rho} : VRel M ρ .nils (.slice none 0 0)
  | sl {ρ : Rho} {id : Nat} (off len lo cap : Nat) (ex : Bool) (e : Nat) {b sz : Nat} (h : ρ id = some (b, sz)) (hlo : lo ≤ cap) (hex : ex = true → cap = lo) (hsz : off + cap * e ≤ sz) :
      VRel M ρ (.sl id off len lo ex e) (.slice (some ⟨b, off, none⟩) len cap)
  | vec0 {ρ : Rho} (len cap : Nat) (ex : Bool) (a : Addr) (hex : ex = true → cap = len) (hl : len ≤ cap) : VRel M ρ (.vec len ex []) (.slice (some a) len cap)
  | vec {ρ : Rho} {cs : List AV} (len cap : Nat) (ex : Bool) (o : Nat) {b : Nat} {c : Array Value} {T : TypeId} {mk : Nat × Nat} (h : M b = some (.cells c T mk)) (hs : o + cs.length ≤ c.size)
      (hp : ∀ i (h1 : i < cs.length), cs[i].isCell = true) (hc : ∀ i (h1 : i < cs.length) (h2 : o + i < c.size), VRel M noRho cs[i] c[o + i]) (hex : ex = true → cap = len) (hl : len ≤ cap) :
      VRel M ρ (.vec len ex cs) (.slice (some ⟨b, o, none⟩) len cap)
  | fn {ρ : Rho} (f : Nat) {fs cs : List AV} {fs' cs' : Array Value} (h1 : fs'.size = fs.length) (h2 : cs'.size = cs.length)
      (hf : ∀ i (h1 : i < fs.length) (h2 : i < fs'.size), VRel M ρ fs[i] fs'[i]) (hc : ∀ i (h1 : i < cs.length) (h2 : i < cs'.size), VRel M ρ cs[i] cs'[i]) :
      VRel M ρ (.fn f fs cs) (.func (.func f) fs' cs')
  | nilf {ρ : Rho} : VRel M ρ .nilf .nilFunc
  | mp {ρ : Rho} {id : Nat} {b sz : Nat} (h : ρ id = some (b, sz)) : VRel M ρ (.mp id) (.map (some b))
  | nilm {ρ : Rho} : VRel M ρ .nilm (.map none)
  | agg {ρ : Rho} {cs : List AV} {ds : Array Value} (hl : ds.size = cs.length) (hp : ∀ i (h1 : i < cs.length), cs[i].isCell = true)
      (hc : ∀ i (h1 : i < cs.length) (h2 : i < ds.size), VRel M ρ cs[i] ds[i]) : VRel M ρ (.agg cs) (.agg ds)
  | tup {ρ : Rho} {cs : List AV} {ds : Array Value} (hl : ds.size = cs.length) (hc : ∀ i (h1 : i < cs.length) (h2 : i < ds.size), VRel M ρ cs[i] ds[i]) : VRel M ρ (.tup cs) (.tuple ds)

theorem VRel.mono {M M' : Mem} {ρ ρ' : Rho} {v : AV} {d : Value} (h : VRel M ρ v d) (hM : ∀ b o, M b = some o → M' b = some o) (hρ : ∀ i p, ρ i = some p → ρ' i = some p) : VRel M' ρ' v d := by
  induction h generalizing ρ' with
  | int k n => exact .int k n
  | bool b => exact .bool b
  | str s => exact .str s
  | nilp => exact .nilp
  | ptr off h => exact .ptr off (hρ _ _ h)
  | pv off o h hs hp hc ih => exact .pv off o (hM _ _ h) hs hp fun i h1 h2 => ih i h1 h2 (fun i p h => h)
  | nils => exact .nils
  | sl off len lo cap ex e h hlo hex hsz => exact .sl off len lo cap ex e (hρ _ _ h) hlo hex hsz
  | vec0 len cap ex a hex hl => exact .vec0 len cap ex a hex hl
  | vec len cap ex o h hs hp hc hex hl ih => exact .vec len cap ex o (hM _ _ h) hs hp (fun i h1 h2 => ih i h1 h2 (fun i p h => h)) hex hl
  | fn f h1 h2 hf hc ihf ihc => exact .fn f h1 h2 (fun i h1 h2 => ihf i h1 h2 hρ) (fun i h1 h2 => ihc i h1 h2 hρ)
  | nilf => exact .nilf
  | mp h => exact .mp (hρ _ _ h)
  | nilm => exact .nilm
  | agg hl hp hc ih => exact .agg hl hp fun i h1 h2 => ih i h1 h2 hρ
  | tup hl hc ih => exact .tup hl fun i h1 h2 => ih i h1 h2 hρ

def isOne : Value → Bool
  | .agg _ | .tuple _ => false
  | _ => true

theorem VRel.oneCell {M : Mem} {ρ : Rho} {v : AV} {d : Value} (h : VRel M ρ v d) (hc : v.isCell = true) : isOne d = true := by
  cases h <;> first | rfl | simp [AV.isCell] at hc

theorem VRel.pure {M : Mem} {ρ ρ' : Rho} {v : AV} {d : Value} (h : VRel M ρ v d) (hpu : v.pure = true) : VRel M ρ' v d := by
  cases h with
  | int k n => exact .int k n
  | bool b => exact .bool b
  | str s => exact .str s
  | nilp => exact .nilp
  | ptr off h => simp [AV.pure] at hpu
  | pv off o h hs hp hc => exact .pv off o h hs hp hc
  | nils => exact .nils
  | sl off len lo cap ex e h hlo hex hsz => simp [AV.pure] at hpu
  | vec0 len cap ex a hex hl => exact .vec0 len cap ex a hex hl
  | vec len cap ex o h hs hp hc hex hl => exact .vec len cap ex o h hs hp hc hex hl
  | fn f h1 h2 hf hc =>
    simp [AV.pure] at hpu
    obtain ⟨rfl, rfl⟩ := hpu
    exact .fn f h1 h2 (fun i h1 h2 => absurd h1 (by simp)) (fun i h1 h2 => absurd h1 (by simp))
  | nilf => exact .nilf
  | mp h => simp [AV.pure] at hpu
  | nilm => exact .nilm
  | agg hl hp hc => simp [AV.pure] at hpu
  | tup hl hc => simp [AV.pure] at hpu

/-- ρ without the numbers from b on. -/
def Rho.below (ρ : Rho) (b : Nat) : Rho := fun i => if i < b then ρ i else none

theorem noNew_all {b n : Nat} {cs : List AV} (h : cs.all (AV.noNew b n) = true) {i : Nat} (hi : i < cs.length) : AV.noNew b n cs[i] = true := by
  rw [List.all_eq_true] at h
  exact h _ (List.getElem_mem hi)

theorem VRel.cut {M : Mem} {ρ : Rho} {v : AV} {d : Value} {b : Nat} (h : VRel M ρ v d) {n : Nat} (hn : v.noNew b n = true) : VRel M (ρ.below b) v d := by
  induction h generalizing n with
  | int k m => exact .int k m
  | bool b => exact .bool b
  | str s => exact .str s
  | nilp => exact .nilp
  | ptr off h =>
    cases n <;> simp [AV.noNew] at hn
    exact .ptr off (by simp [Rho.below, hn]; exact h)
  | pv off o h hs hp hc ih => exact .pv off o h hs hp hc
  | nils => exact .nils
  | sl off len lo cap ex e h hlo hex hsz =>
    cases n <;> simp [AV.noNew] at hn
    exact .sl off len lo cap ex e (by simp [Rho.below, hn]; exact h) hlo hex hsz
  | vec0 len cap ex a hex hl => exact .vec0 len cap ex a hex hl
  | vec len cap ex o h hs hp hc hex hl ih => exact .vec len cap ex o h hs hp hc hex hl
  | fn f h1 h2 hf hc ihf ihc =>
    cases n with
    | zero => simp [AV.noNew] at hn
    | succ n =>
      simp only [AV.noNew, Bool.and_eq_true] at hn
      exact .fn f h1 h2 (fun i h1 h2 => ihf i h1 h2 (noNew_all hn.1 h1)) (fun i h1 h2 => ihc i h1 h2 (noNew_all hn.2 h1))
  | nilf => exact .nilf
  | mp h =>
    cases n <;> simp [AV.noNew] at hn
    exact .mp (by simp [Rho.below, hn]; exact h)
  | nilm => exact .nilm
  | agg hl hp hc ih =>
    cases n with
    | zero => simp [AV.noNew] at hn
    | succ n =>
      simp only [AV.noNew] at hn
      exact .agg hl hp fun i h1 h2 => ih i h1 h2 (noNew_all hn h1)
  | tup hl hc ih =>
    cases n with
    | zero => simp [AV.noNew] at hn
    | succ n =>
      simp only [AV.noNew] at hn
      exact .tup hl fun i h1 h2 => ih i h1 h2 (noNew_all hn h1)

/-- Cells. -/
def CRel (M : Mem) (ρ : Rho) (cs : List AV) (c : Array Value) : Prop := ∀ i (h1 : i < cs.length) (h2 : i < c.size), cs[i].isCell = true ∧ VRel M ρ cs[i] c[i]

theorem CRel.mono {M M' : Mem} {ρ ρ' : Rho} {cs : List AV} {c : Array Value} (h : CRel M ρ cs c) (hM : ∀ b o, M b = some o → M' b = some o) (hρ : ∀ i p, ρ i = some p → ρ' i = some p) : CRel M' ρ' cs c :=
  fun i h1 h2 => ⟨(h i h1 h2).1, (h i h1 h2).2.mono hM hρ⟩

def AObj.live : AObj → Prop
  | .cells .. | .map _ => True
  | _ => False
def AObj.relOf : AObj → Option Nat
  | .cells _ rel => rel
  | _ => none

def ObjRel (M : Mem) (ρ : Rho) (w : World) (b sz : Nat) : AObj → Prop
  | .dead => True
  | .cells cs _ => M b = none ∧ ∃ (c : Array Value) (T : TypeId) (mk : Nat × Nat), w.heap[b]? = some (.cells c T mk) ∧ mk.2 ≤ mk.1 ∧ c.size = sz ∧ cs.length ≤ sz ∧ CRel M ρ cs c
  | .frz cs => ∃ (c : Array Value) (T : TypeId) (mk : Nat × Nat), M b = some (.cells c T mk) ∧ c.size = sz ∧ cs.length ≤ sz ∧ CRel M noRho cs c
  | .map es => M b = none ∧ ∃ (ents : Array MapEntry) (clock : Nat), w.heap[b]? = some (.map ents clock) ∧ ents.size = es.length ∧
      ∀ i (h1 : i < es.length) (h2 : i < ents.size), VRel M ρ es[i].1 ents[i].key ∧ VRel M ρ es[i].2 ents[i].val

structure Rel (M : Mem) (ρ : Rho) (H : Heap) (w : World) : Prop where
  mem : ∀ b o, M b = some o → w.heap[b]? = some o
  dom : ∀ i p, ρ i = some p → i < H.next
  obj : ∀ i b sz, ρ i = some (b, sz) → ObjRel M ρ w b sz (H.obj i)
  sep : ∀ i j b s t, i ≠ j → ρ i = some (b, s) → ρ j = some (b, t) → (H.obj i).live → (H.obj j).live → (H.obj i).relOf = some j

/-- What one step does: T are the objects that it may have touched. -/
structure Step (M : Mem) (ρ : Rho) (H : Heap) (w : World) (M' : Mem) (ρ' : Rho) (H' : Heap) (w' : World) : Prop where
  rel : Rel M' ρ' H' w'
  mem : ∀ b o, M b = some o → M' b = some o
  rho : ∀ i p, ρ i = some p → ρ' i = some p
  old : ∀ i, i < H.next → ρ' i = ρ i
  full : ∀ i, H.next ≤ i → i < H'.next → ∃ p, ρ' i = some p
  os : w'.os = w.os
  tape : w'.tape = w.tape
  output : w'.output = w.output
  size : w.heap.size ≤ w'.heap.size
  next : H.next ≤ H'.next
  base : H'.base = H.base
  wc : H.wc ≤ H'.wc
  wsub : ∀ i, i ∈ H.ws → i ∈ H'.ws
  trk : ∃ T : Nat → Prop, (∀ i, T i → i < H.base → i ∈ H'.ws) ∧ (∀ i, T i → H.wc < H'.wc) ∧ (∀ i, i < H.next → ¬ T i → H'.obj i = H.obj i) ∧
    (∀ b, b < w.heap.size → (∀ i p, T i → ρ i = some p → p.1 ≠ b) → w'.heap[b]? = w.heap[b]?) ∧
    (∀ b o, M' b = some o → M b = none → w.heap.size ≤ b ∨ ∃ i p, T i ∧ ρ i = some p ∧ p.1 = b) ∧
    (∀ i p, H.next ≤ i → ρ' i = some p → w.heap.size ≤ p.1 ∨ ∃ j q, T j ∧ ρ j = some q ∧ q.1 = p.1)

theorem Step.refl {M : Mem} {ρ : Rho} {H : Heap} {w : World} (h : Rel M ρ H w) : Step M ρ H w M ρ H w :=
  ⟨h, fun _ _ h => h, fun _ _ h => h, fun _ _ => rfl, (fun i h1 h2 => by omega), rfl, rfl, rfl, Nat.le_refl _, Nat.le_refl _, rfl, Nat.le_refl _, fun _ h => h,
    fun _ => False, fun _ h => h.elim, fun _ h => h.elim, fun _ _ _ => rfl, fun _ _ _ => rfl, fun b o h1 h2 => by simp [h1] at h2, fun i p h1 h2 => by have := h.dom i p h2; omega⟩

theorem Step.trans {M M1 M2 : Mem} {ρ ρ1 ρ2 : Rho} {H H1 H2 : Heap} {w w1 w2 : World} (a : Step M ρ H w M1 ρ1 H1 w1) (b : Step M1 ρ1 H1 w1 M2 ρ2 H2 w2) : Step M ρ H w M2 ρ2 H2 w2 := by
  obtain ⟨T1, a1, a2, a3, a4, a5, a6⟩ := a.trk
  obtain ⟨T2, b1, b2, b3, b4, b5, b6⟩ := b.trk
  have hnext := a.next
  refine ⟨b.rel, fun x o h => b.mem _ _ (a.mem _ _ h), fun i p h => b.rho _ _ (a.rho _ _ h), fun i h => (b.old i (by omega)).trans (a.old i h), (fun i h1 h2 => by
    by_cases hi : i < H1.next
    · obtain ⟨p, hp⟩ := a.full i h1 hi; exact ⟨p, b.rho _ _ hp⟩
    · exact b.full i (by omega) h2), b.os.trans a.os, b.tape.trans a.tape, b.output.trans a.output,
    Nat.le_trans a.size b.size, Nat.le_trans a.next b.next, b.base.trans a.base, Nat.le_trans a.wc b.wc, fun i h => b.wsub _ (a.wsub _ h),
    fun i => T1 i ∨ (T2 i ∧ i < H.next), ?_, ?_, ?_, ?_, ?_, ?_⟩
  · rintro i (h | ⟨h, _⟩) hb
    · exact b.wsub _ (a1 i h hb)
    · exact b1 i h (by rw [a.base]; exact hb)
  · rintro i (h | ⟨h, _⟩)
    · exact Nat.lt_of_lt_of_le (a2 i h) b.wc
    · exact Nat.lt_of_le_of_lt a.wc (b2 i h)
  · intro i hi hT
    rw [b3 i (by omega) (fun h => hT (.inr ⟨h, hi⟩)), a3 i hi (fun h => hT (.inl h))]
  · intro x hx hT
    have h1 := a4 x hx fun i p h hp => hT i p (.inl h) hp
    rw [b4 x (by have := a.size; omega) ?_, h1]
    intro i p h hp
    by_cases hi : i < H.next
    · rw [a.old i hi] at hp
      exact hT i p (.inr ⟨h, hi⟩) hp
    · rcases a6 i p (by omega) hp with h6 | ⟨j, q, h7, h8, h9⟩
      · omega
      · rw [← h9]; exact hT j q (.inl h7) h8
  · intro x o h1 h2
    cases h3 : M1 x with
    | some o' =>
      rcases a5 x o' h3 h2 with h | ⟨i, p, h4, h5, h6⟩
      · exact .inl h
      · exact .inr ⟨i, p, .inl h4, h5, h6⟩
    | none =>
      rcases b5 x o h1 h3 with h | ⟨i, p, h4, h5, h6⟩
      · exact .inl (by have := a.size; omega)
      · by_cases hi : i < H.next
        · rw [a.old i hi] at h5
          exact .inr ⟨i, p, .inr ⟨h4, hi⟩, h5, h6⟩
        · rcases a6 i p (by omega) h5 with h7 | ⟨j, q, h7, h8, h9⟩
          · exact .inl (by omega)
          · exact .inr ⟨j, q, .inl h7, h8, h9.trans h6⟩
  · intro i p hi hp
    by_cases hi1 : i < H1.next
    · rw [b.old i hi1] at hp
      rcases a6 i p hi hp with h | ⟨j, q, h7, h8, h9⟩
      · exact .inl h
      · exact .inr ⟨j, q, .inl h7, h8, h9⟩
    · rcases b6 i p (by omega) hp with h | ⟨j, q, h7, h8, h9⟩
      · exact .inl (by have := a.size; omega)
      · by_cases hj : j < H.next
        · rw [a.old j hj] at h8
          exact .inr ⟨j, q, .inr ⟨h7, hj⟩, h8, h9⟩
        · rcases a6 j q (by omega) h8 with h | ⟨j', q', h10, h11, h12⟩
          · exact .inl (by omega)
          · exact .inr ⟨j', q', .inl h10, h11, h12.trans h9⟩

theorem Step.vrel {M M1 : Mem} {ρ ρ1 : Rho} {H H1 : Heap} {w w1 : World} (a : Step M ρ H w M1 ρ1 H1 w1) {v : AV} {d : Value} (h : VRel M ρ v d) : VRel M1 ρ1 v d := h.mono a.mem a.rho

/-! ### The steps -/
/-- A draw. -/
theorem Rel.drawn {M : Mem} {ρ : Rho} {H : Heap} {w : World} (h : Rel M ρ H w) (n : Nat) : Rel M ρ H { w with drawn := n } :=
  ⟨h.mem, h.dom, fun i b sz hi => by have := h.obj i b sz hi; cases ho : H.obj i <;> rw [ho] at this <;> exact this, h.sep⟩

theorem Step.drawn {M : Mem} {ρ : Rho} {H : Heap} {w : World} (h : Rel M ρ H w) (n : Nat) : Step M ρ H w M ρ H { w with drawn := n } :=
  { Step.refl h with rel := h.drawn n }

theorem ObjRel.mono {M M' : Mem} {ρ ρ' : Rho} {w w' : World} {b sz : Nat} {o : AObj} (h : ObjRel M ρ w b sz o) (hM : ∀ b o, M b = some o → M' b = some o) (hρ : ∀ i p, ρ i = some p → ρ' i = some p)
    (hb : o.live → M' b = none) (hw : o.live → w'.heap[b]? = w.heap[b]?) : ObjRel M' ρ' w' b sz o := by
  cases o with
  | dead => trivial
  | cells cs rel =>
    obtain ⟨_, c, T, mk, h1, h2, h3, h4, h5⟩ := h
    exact ⟨hb trivial, c, T, mk, (hw trivial).trans h1, h2, h3, h4, h5.mono hM hρ⟩
  | frz cs =>
    obtain ⟨c, T, mk, h1, h2, h3, h4⟩ := h
    exact ⟨c, T, mk, hM _ _ h1, h2, h3, h4.mono hM (fun _ _ h => h)⟩
  | map es =>
    obtain ⟨_, ents, clock, h1, h2, h3⟩ := h
    exact ⟨hb trivial, ents, clock, (hw trivial).trans h1, h2, fun i a b => ⟨(h3 i a b).1.mono hM hρ, (h3 i a b).2.mono hM hρ⟩⟩

def push (w : World) (o : Obj) : World := { w with heap := w.heap.push o }

theorem push_old {w : World} {o : Obj} {b : Nat} (h : b < w.heap.size) : (push w o).heap[b]? = w.heap[b]? := by
  simp only [push, Array.getElem?_push]
  rw [if_neg (by omega)]

theorem push_new {w : World} {o : Obj} : (push w o).heap[w.heap.size]? = some o := by
  show (w.heap.push o)[w.heap.size]? = some o
  exact Array.getElem?_push_size

theorem lt_of_some {w : World} {b : Nat} {o : Obj} (h : w.heap[b]? = some o) : b < w.heap.size := by
  rcases Nat.lt_or_ge b w.heap.size with h1 | h1
  · exact h1
  · simp [Array.getElem?_eq_none h1] at h

theorem Rel.memlt {M : Mem} {ρ : Rho} {H : Heap} {w : World} (h : Rel M ρ H w) {b : Nat} {o : Obj} (hb : M b = some o) : b < w.heap.size := lt_of_some (h.mem b o hb)

theorem ObjRel.blt {M : Mem} {ρ : Rho} {w : World} {b sz : Nat} {o : AObj} (h : ObjRel M ρ w b sz o) (hl : o.live) : b < w.heap.size := by
  cases o with
  | dead => exact hl.elim
  | cells cs rel => obtain ⟨_, c, T, mk, h1, _⟩ := h; exact lt_of_some h1
  | frz cs => exact hl.elim
  | map es => obtain ⟨_, ents, clock, h1, _⟩ := h; exact lt_of_some h1

theorem upd_same {α : Type} (f : Nat → α) (i : Nat) (a : α) : upd f i a i = a := by simp [upd]
theorem upd_ne {α : Type} (f : Nat → α) {i j : Nat} (a : α) (h : j ≠ i) : upd f i a j = f j := by simp [upd, h]

/-- A new live object on a new block. -/
theorem Step.new {M : Mem} {ρ : Rho} {H : Heap} {w : World} (h : Rel M ρ H w) (o : AObj) (ob : Obj) (sz : Nat) (hr : o.relOf = none)
    (ho : ObjRel M ρ (push w ob) w.heap.size sz o) : Step M ρ H w M (upd ρ H.next (some (w.heap.size, sz))) (H.new o) (push w ob) := by
  have hρ : ∀ i p, ρ i = some p → upd ρ H.next (some (w.heap.size, sz)) i = some p := fun i p hi => by
    rw [upd_ne _ _ (by have := h.dom i p hi; omega)]; exact hi
  have hfree : M w.heap.size = none := by
    cases hm : M w.heap.size with
    | none => rfl
    | some o => have := h.memlt hm; omega
  have hobj : ∀ i b s, upd ρ H.next (some (w.heap.size, sz)) i = some (b, s) → ObjRel M (upd ρ H.next (some (w.heap.size, sz))) (push w ob) b s ((H.new o).obj i) := by
    intro i b s hi
    by_cases e : i = H.next
    · subst e
      rw [upd_same] at hi
      cases hi
      simp only [Heap.new, upd_same]
      exact ho.mono (fun _ _ h => h) hρ (fun _ => hfree) (fun _ => rfl)
    · rw [upd_ne _ _ e] at hi
      simp only [Heap.new, upd_ne _ _ e]
      have h1 := h.obj i b s hi
      exact h1.mono (fun _ _ h => h) hρ (fun hl => by
        cases hx : H.obj i <;> rw [hx] at h1 hl <;> first | exact hl.elim | exact h1.1) (fun hl => push_old (h1.blt hl))
  refine ⟨⟨?_, ?_, hobj, ?_⟩, fun _ _ h => h, hρ, ?_, (fun i h1 h2 => by
    simp only [Heap.new] at h2
    have e : i = H.next := by omega
    subst e; exact ⟨_, upd_same _ _ _⟩), rfl, rfl, rfl, by simp [push], by simp [Heap.new], rfl, Nat.le_refl _, fun _ h => h, fun _ => False, fun _ h => h.elim, fun _ h => h.elim, ?_, ?_, ?_, ?_⟩
  · intro b o hb; rw [push_old (h.memlt hb)]; exact h.mem b o hb
  · intro i p hi
    by_cases e : i = H.next
    · simp [Heap.new, e]
    · rw [upd_ne _ _ e] at hi; have := h.dom i p hi; simp [Heap.new]; omega
  · intro i j b s t hij hi hj hl1 hl2
    by_cases e : i = H.next
    · subst e
      rw [upd_same] at hi; cases hi
      rw [upd_ne _ _ (fun e => hij e.symm)] at hj
      simp only [Heap.new, upd_ne _ _ (fun e => hij e.symm : j ≠ H.next)] at hl2
      have := (h.obj j _ _ hj).blt hl2
      omega
    · rw [upd_ne _ _ e] at hi
      simp only [Heap.new, upd_ne _ _ e] at hl1 ⊢
      by_cases e2 : j = H.next
      · subst e2
        rw [upd_same] at hj; cases hj
        have := (h.obj i _ _ hi).blt hl1
        omega
      · rw [upd_ne _ _ e2] at hj
        simp only [Heap.new, upd_ne _ _ e2] at hl2
        exact h.sep i j b s t hij hi hj hl1 hl2
  · intro i hi; rw [upd_ne _ _ (by omega)]
  · intro i hi _; simp only [Heap.new]; rw [upd_ne _ _ (by omega)]
  · intro b hb _; exact push_old hb
  · intro b o h1 h2; simp [h1] at h2
  · intro i p hi hp
    by_cases e : i = H.next
    · subst e; rw [upd_same] at hp; cases hp; exact .inl (Nat.le_refl _)
    · rw [upd_ne _ _ e] at hp; have := h.dom i p hp; omega

/-- A new frozen block. -/
theorem Step.newfrz {M : Mem} {ρ : Rho} {H : Heap} {w : World} (h : Rel M ρ H w) (ob : Obj) : Step M ρ H w (upd M w.heap.size (some ob)) ρ H (push w ob) := by
  have hfree : M w.heap.size = none := by
    cases hm : M w.heap.size with
    | none => rfl
    | some o => have := h.memlt hm; omega
  have hM : ∀ b o, M b = some o → upd M w.heap.size (some ob) b = some o := fun b o hb => by
    rw [upd_ne _ _ (by have := h.memlt hb; omega)]; exact hb
  refine ⟨⟨?_, h.dom, ?_, h.sep⟩, hM, fun _ _ h => h, fun _ _ => rfl, (fun i h1 h2 => by omega), rfl, rfl, rfl, by simp [push], Nat.le_refl _, rfl, Nat.le_refl _, fun _ h => h, fun _ => False, fun _ h => h.elim, fun _ h => h.elim, fun _ _ _ => rfl, ?_, ?_, ?_⟩
  · intro b o hb
    by_cases e : b = w.heap.size
    · subst e; rw [upd_same] at hb; cases hb; exact push_new
    · rw [upd_ne _ _ e] at hb; rw [push_old (h.memlt hb)]; exact h.mem b o hb
  · intro i b s hi
    have h1 := h.obj i b s hi
    refine h1.mono hM (fun _ _ h => h) (fun hl => ?_) (fun hl => push_old (h1.blt hl))
    have := h1.blt hl
    rw [upd_ne _ _ (by omega)]
    cases hx : H.obj i <;> rw [hx] at h1 hl <;> first | exact hl.elim | exact h1.1
  · intro b hb _; exact push_old hb
  · intro b o h1 h2
    by_cases e : b = w.heap.size
    · exact .inl (by omega)
    · rw [upd_ne _ _ e] at h1; simp [h1] at h2
  · intro i p hi hp; have := h.dom i p hp; omega

/-- What is changed of one object, the world as it was. -/
theorem Step.setSame {M : Mem} {ρ : Rho} {H : Heap} {w : World} (h : Rel M ρ H w) (i : Nat) (o : AObj)
    (ho : ∀ b sz, ρ i = some (b, sz) → ObjRel M ρ w b sz o) (hs : ∀ j b s t, i ≠ j → ρ i = some (b, s) → ρ j = some (b, t) → o.live → (H.obj j).live → o.relOf = some j ∧ (H.obj j).relOf = some i) :
    Step M ρ H w M ρ (H.set i o) w := by
  refine ⟨⟨h.mem, h.dom, ?_, ?_⟩, fun _ _ h => h, fun _ _ h => h, fun _ _ => rfl, (fun i h1 h2 => by simp only [Heap.set] at h2; omega), rfl, rfl, rfl, Nat.le_refl _, Nat.le_refl _, rfl, by simp [Heap.set], ?_, fun j => j = i, ?_, ?_, ?_, fun _ _ _ => rfl, ?_, ?_⟩
  · intro j b s hj
    by_cases e : j = i
    · subst e; simp only [Heap.set, upd_same]; exact ho b s hj
    · simp only [Heap.set, upd_ne _ _ e]; exact h.obj j b s hj
  · intro x y b s t hxy hx hy hl1 hl2
    by_cases e : x = i
    · subst e
      simp only [Heap.set, upd_same, upd_ne _ _ (fun e => hxy e.symm : y ≠ x)] at hl1 hl2 ⊢
      exact (hs y b s t hxy hx hy hl1 hl2).1
    · simp only [Heap.set, upd_ne _ _ e] at hl1 ⊢
      by_cases e2 : y = i
      · subst e2
        simp only [Heap.set, upd_same] at hl2
        exact (hs x b t s (fun e => hxy e.symm) hy hx hl2 hl1).2
      · simp only [Heap.set, upd_ne _ _ e2] at hl2
        exact h.sep x y b s t hxy hx hy hl1 hl2
  · intro j hj; simp only [Heap.set]; split <;> simp [hj]
  · rintro j rfl hb; simp [Heap.set, hb]
  · intro j _; simp [Heap.set]
  · intro j _ hne; simp only [Heap.set]; exact upd_ne _ _ hne
  · intro b o h1 h2; simp [h1] at h2
  · intro j p hj hp; have := h.dom j p hp; omega

/-- The model's world with one block changed. -/
def setBlk (w : World) (b : Nat) (o : Obj) : World := { w with heap := w.heap.setIfInBounds b o }

theorem setBlk_same {w : World} {b : Nat} {o : Obj} (h : b < w.heap.size) : (setBlk w b o).heap[b]? = some o := by simp [setBlk, h]
theorem setBlk_ne {w : World} {b b' : Nat} {o : Obj} (h : b' ≠ b) : (setBlk w b o).heap[b']? = w.heap[b']? := by
  simp only [setBlk]; rw [Array.getElem?_setIfInBounds, if_neg (fun e => h e.symm)]

/-- The heap behind 'the relative dies, then the object is changed'. -/
def Heap.over (H : Heap) (i : Nat) (o : AObj) : Heap := (H.kill (H.obj i).relOf).set i o

theorem over_obj (H : Heap) (i : Nat) (o : AObj) (j : Nat) : (H.over i o).obj j = if j = i then o else if (H.obj i).relOf = some j then .dead else H.obj j := by
  unfold Heap.over Heap.set
  simp only [upd]
  split
  · rfl
  · cases h : (H.obj i).relOf with
    | none => simp [Heap.kill]
    | some r =>
      simp only [Heap.kill, Heap.set, upd, Option.some.injEq]
      by_cases e : j = r
      · subst e; simp
      · rw [if_neg e, if_neg (fun h => e h.symm)]

theorem over_next (H : Heap) (i : Nat) (o : AObj) : (H.over i o).next = H.next ∧ (H.over i o).base = H.base ∧ H.wc < (H.over i o).wc := by
  unfold Heap.over
  cases (H.obj i).relOf <;> simp [Heap.kill, Heap.set] <;> omega

theorem over_ws (H : Heap) (i : Nat) (o : AObj) : (∀ j, j ∈ H.ws → j ∈ (H.over i o).ws) ∧ (∀ j, (j = i ∨ (H.obj i).relOf = some j) → j < H.base → j ∈ (H.over i o).ws) := by
  have hset : ∀ (H : Heap) (i : Nat) (o : AObj), (∀ j, j ∈ H.ws → j ∈ (H.set i o).ws) ∧ (i < H.base → i ∈ (H.set i o).ws) := by
    intro H i o
    by_cases hb : i < H.base
    · simp [Heap.set, hb]; intro j hj; exact .inr hj
    · simp [Heap.set, hb]
  unfold Heap.over
  cases h : (H.obj i).relOf with
  | none =>
    refine ⟨(hset H i o).1, ?_⟩
    rintro j (rfl | hj) hb
    · exact (hset H j o).2 hb
    · cases hj
  | some r =>
    refine ⟨fun j hj => (hset (H.set r .dead) i o).1 j ((hset H r .dead).1 j hj), ?_⟩
    rintro j (rfl | hj) hb
    · exact (hset (H.set r .dead) j o).2 hb
    · cases hj; exact (hset (H.set r .dead) i o).1 r ((hset H r .dead).2 hb)

/-- Behind that, no other live object shares the object's block. -/
theorem over_alone {M : Mem} {ρ : Rho} {H : Heap} {w : World} (h : Rel M ρ H w) {i : Nat} (o : AObj) {b sz : Nat} (hi : ρ i = some (b, sz)) (hl : (H.obj i).live) {j t : Nat} (hij : j ≠ i) (hj : ρ j = some (b, t)) : ¬ ((H.over i o).obj j).live := by
  rw [over_obj, if_neg hij]
  intro hlj
  split at hlj
  · exact hlj
  · rename_i hne
    exact hne (h.sep i j b sz t (fun e => hij e.symm) hi hj hl hlj)

theorem over_live {H : Heap} {i : Nat} {o : AObj} {j : Nat} (hij : j ≠ i) (h : ((H.over i o).obj j).live) : (H.over i o).obj j = H.obj j := by
  rw [over_obj, if_neg hij] at h ⊢
  split at h
  · exact h.elim
  · rename_i hne; rw [if_neg hne]

theorem over_any {M : Mem} {ρ : Rho} {w : World} {b sz : Nat} {H : Heap} {i : Nat} {o : AObj} {j : Nat} (hij : j ≠ i) (h : ObjRel M ρ w b sz (H.obj j)) : ObjRel M ρ w b sz ((H.over i o).obj j) := by
  rw [over_obj, if_neg hij]
  split
  · trivial
  · exact h

theorem live_free {M : Mem} {ρ : Rho} {w : World} {b sz : Nat} {o : AObj} (h : ObjRel M ρ w b sz o) (hl : o.live) : M b = none := by
  cases o with
  | dead => exact hl.elim
  | cells cs rel => exact h.1
  | frz cs => exact hl.elim
  | map es => exact h.1

/-- A write into the block of a live object. -/
theorem Step.write {M : Mem} {ρ : Rho} {H : Heap} {w : World} (h : Rel M ρ H w) (i : Nat) (o : AObj) (b sz : Nat) (ob : Obj) (hi : ρ i = some (b, sz)) (hl : (H.obj i).live) (hr : o.relOf = none)
    (ho : ObjRel M ρ (setBlk w b ob) b sz o) : Step M ρ H w M ρ (H.over i o) (setBlk w b ob) := by
  have hb : b < w.heap.size := (h.obj i b sz hi).blt hl
  have hMb : M b = none := live_free (h.obj i b sz hi) hl
  obtain ⟨hn1, hn2, hn3⟩ := over_next H i o
  obtain ⟨hw1, hw2⟩ := over_ws H i o
  refine ⟨⟨?_, by rw [hn1]; exact h.dom, ?_, ?_⟩, fun _ _ h => h, fun _ _ h => h, fun _ _ => rfl, (fun i h1 h2 => by omega), rfl, rfl, rfl, by simp [setBlk], by omega, hn2, by omega, hw1, fun j => j = i ∨ (H.obj i).relOf = some j, hw2, ?_, ?_, ?_, ?_, ?_⟩
  · intro b' o' hb'
    rw [setBlk_ne (fun e => by subst e; simp [hMb] at hb')]
    exact h.mem b' o' hb'
  · intro j b' s hj
    by_cases e : j = i
    · subst e; rw [over_obj, if_pos rfl]
      rw [hi] at hj; cases hj; exact ho
    · have h1 := over_any (i := i) (o := o) e (h.obj j b' s hj)
      refine h1.mono (fun _ _ h => h) (fun _ _ h => h) (fun hl => live_free h1 hl) (fun hl' => setBlk_ne fun eb => ?_)
      subst eb; exact over_alone h o hi hl e hj hl'
  · intro x y b' s t hxy hx hy hl1 hl2
    by_cases e : x = i
    · subst e
      rw [hi] at hx; cases hx
      exact absurd hl2 (over_alone h o hi hl (fun e => hxy e.symm) hy)
    · by_cases e2 : y = i
      · subst e2
        rw [hi] at hy; cases hy
        exact absurd hl1 (over_alone h o hi hl e hx)
      · have g1 := over_live e hl1
        have g2 := over_live e2 hl2
        rw [g1] at hl1 ⊢
        rw [g2] at hl2
        exact h.sep x y b' s t hxy hx hy hl1 hl2
  · intro j _; exact hn3
  · intro j _ hne
    rw [over_obj, if_neg (fun e => hne (.inl e)), if_neg (fun e => hne (.inr e))]
  · intro b' _ hT; exact setBlk_ne fun e => hT i (b, sz) (.inl rfl) hi e.symm
  · intro b o h1 h2; simp [h1] at h2
  · intro j p hj hp; have := h.dom j p hp; omega

/-- A live object is frozen. -/
theorem Step.freeze {M : Mem} {ρ : Rho} {H : Heap} {w : World} (h : Rel M ρ H w) (i : Nat) (cs0 cs : List AV) (rel : Option Nat) (hob : H.obj i = .cells cs0 rel)
    (hlen : ∀ b sz, ρ i = some (b, sz) → cs.length ≤ sz) (hc : ∀ b sz c T mk, ρ i = some (b, sz) → w.heap[b]? = some (.cells c T mk) → CRel M noRho cs c) :
    ∃ M', Step M ρ H w M' ρ (H.over i (.frz cs)) w ∧ (∀ b sz, ρ i = some (b, sz) → ∃ (c : Array Value) (T : TypeId) (mk : Nat × Nat), M' b = some (.cells c T mk) ∧ c.size = sz ∧ cs.length ≤ sz ∧ CRel M' noRho cs c) := by
  obtain ⟨hn1, hn2, hn3⟩ := over_next H i (.frz cs)
  obtain ⟨hw1, hw2⟩ := over_ws H i (.frz cs)
  have hl : (H.obj i).live := by rw [hob]; trivial
  cases hi : ρ i with
  | none =>
    refine ⟨M, ⟨⟨h.mem, by rw [hn1]; exact h.dom, ?_, ?_⟩, fun _ _ h => h, fun _ _ h => h, fun _ _ => rfl, (fun i h1 h2 => by omega), rfl, rfl, rfl, Nat.le_refl _, by omega, hn2, by omega, hw1, fun j => j = i ∨ (H.obj i).relOf = some j, hw2, fun _ _ => hn3, ?_, fun _ _ _ => rfl, ?_, ?_⟩, fun b sz h => by cases h⟩
    · intro j b s hj
      exact over_any (fun e => by subst e; simp [hi] at hj) (h.obj j b s hj)
    · intro x y b' s t hxy hx hy hl1 hl2
      have g1 := over_live (fun e => by subst e; simp [hi] at hx) hl1
      have g2 := over_live (fun e => by subst e; simp [hi] at hy) hl2
      rw [g1] at hl1 ⊢
      rw [g2] at hl2
      exact h.sep x y b' s t hxy hx hy hl1 hl2
    · intro j _ hne
      rw [over_obj, if_neg (fun e => hne (.inl e)), if_neg (fun e => hne (.inr e))]
    · intro b o h1 h2; simp [h1] at h2
    · intro j p hj hp; have := h.dom j p hp; omega
  | some p =>
    obtain ⟨b, sz⟩ := p
    have hobj := h.obj i b sz hi
    rw [hob] at hobj
    obtain ⟨_, c, T, mk, h1, _, h2, h3, _⟩ := hobj
    have h4 := hc b sz c T mk hi h1
    have h3' : cs.length ≤ sz := hlen b sz hi
    have hM : ∀ b' o, M b' = some o → upd M b (some (.cells c T mk)) b' = some o := fun b' o hb => by
      by_cases e : b' = b
      · subst e; rw [upd_same]; rw [← h1]; exact h.mem b' o hb
      · rw [upd_ne _ _ e]; exact hb
    refine ⟨upd M b (some (.cells c T mk)), ⟨⟨?_, by rw [hn1]; exact h.dom, ?_, ?_⟩, hM, fun _ _ h => h, fun _ _ => rfl, (fun i h1 h2 => by omega), rfl, rfl, rfl, Nat.le_refl _, by omega, hn2, by omega, hw1, fun j => j = i ∨ (H.obj i).relOf = some j, hw2, fun _ _ => hn3, ?_, fun _ _ _ => rfl, ?_, ?_⟩, ?_⟩
    · intro b' o hb'
      by_cases e : b' = b
      · subst e; rw [upd_same] at hb'; cases hb'; exact h1
      · rw [upd_ne _ _ e] at hb'; exact h.mem b' o hb'
    · intro j b' s hj
      by_cases e : j = i
      · subst e
        rw [hi] at hj; cases hj
        rw [over_obj, if_pos rfl]
        exact ⟨c, T, mk, upd_same _ _ _, h2, h3', h4.mono hM (fun _ _ h => h)⟩
      · have h6 := over_any (i := i) (o := .frz cs) e (h.obj j b' s hj)
        refine h6.mono hM (fun _ _ h => h) (fun hlj => ?_) (fun _ => rfl)
        by_cases eb : b' = b
        · subst eb; exact absurd hlj (over_alone h _ hi hl e hj)
        · rw [upd_ne _ _ eb]
          exact live_free h6 hlj
    · intro x y b' s t hxy hx hy hl1 hl2
      have ex : x ≠ i := fun e => by subst e; rw [over_obj, if_pos rfl] at hl1; exact hl1
      have ey : y ≠ i := fun e => by subst e; rw [over_obj, if_pos rfl] at hl2; exact hl2
      have g1 := over_live ex hl1
      have g2 := over_live ey hl2
      rw [g1] at hl1 ⊢
      rw [g2] at hl2
      exact h.sep x y b' s t hxy hx hy hl1 hl2
    · intro j _ hne
      rw [over_obj, if_neg (fun e => hne (.inl e)), if_neg (fun e => hne (.inr e))]
    · intro b' o h6 h7
      by_cases e : b' = b
      · exact .inr ⟨i, (b, sz), .inl rfl, hi, e.symm⟩
      · rw [upd_ne _ _ e] at h6; simp [h6] at h7
    · intro j p hj hp; have := h.dom j p hp; omega
    · intro b' sz' h6
      cases h6
      exact ⟨c, T, mk, upd_same _ _ _, h2, h3', h4.mono hM (fun _ _ h => h)⟩

/-- A row is continued: the new row lies behind the old one in its block, or (the second case) on a new block. -/
theorem Step.child {M : Mem} {ρ : Rho} {H : Heap} {w w' : World} (h : Rel M ρ H w) (i : Nat) (cs xs : List AV) (rel : Option Nat) (hob : H.obj i = .cells cs rel) (p : Nat × Nat) (hlt : p.1 < w'.heap.size)
    (hin : i < H.next) (hos : w'.os = w.os ∧ w'.tape = w.tape ∧ w'.output = w.output) (hsz : w.heap.size ≤ w'.heap.size) (hfree : M p.1 = none)
    (hblk : ∀ b, b < w.heap.size → (∀ t, ρ i = some (b, t) → p.1 ≠ b) → w'.heap[b]? = w.heap[b]?)
    (hnew : w.heap.size ≤ p.1 ∨ ρ i = some p)
    (h1 : ∀ b sz, ρ i = some (b, sz) → ObjRel M ρ w' b sz (.cells cs none))
    (h2 : ObjRel M ρ w' p.1 p.2 (.cells xs none)) :
    Step M ρ H w M (upd ρ H.next (some p)) ((H.over i (.cells cs (some H.next))).new (.cells xs (some i))) w' := by
  obtain ⟨hn1, hn2, hn3⟩ := over_next H i (.cells cs (some H.next))
  obtain ⟨hw1, hw2⟩ := over_ws H i (.cells cs (some H.next))
  have hl : (H.obj i).live := by rw [hob]; trivial
  have hne : i ≠ H.next := by omega
  have hρ : ∀ j q, ρ j = some q → upd ρ H.next (some p) j = some q := fun j q hj => by
    rw [upd_ne _ _ (by have := h.dom j q hj; omega)]; exact hj
  have hM0 : ∀ b o, M b = some o → M b = some o := fun _ _ h => h
  have obj' : ∀ j, ((H.over i (.cells cs (some H.next))).new (.cells xs (some i))).obj j = if j = H.next then .cells xs (some i) else if j = i then .cells cs (some H.next) else if (H.obj i).relOf = some j then .dead else H.obj j := by
    intro j
    simp only [Heap.new, hn1, upd]
    split
    · rfl
    · rw [over_obj]
  have oth : ∀ {j b t}, j ≠ H.next → j ≠ i → ρ j = some (b, t) → (((H.over i (.cells cs (some H.next))).new (.cells xs (some i))).obj j).live → (∀ s, ρ i ≠ some (b, s)) ∧ b ≠ p.1 ∧ (H.obj j).live ∧ ((H.over i (.cells cs (some H.next))).new (.cells xs (some i))).obj j = H.obj j := by
    intro j b t hj1 hj2 hj hlj
    rw [obj', if_neg hj1, if_neg hj2] at hlj ⊢
    split at hlj
    · exact hlj.elim
    · rename_i hr
      rw [if_neg hr]
      have hns : ∀ s, ρ i ≠ some (b, s) := fun s hi => hr (h.sep i j b s t (fun e => hj2 e.symm) hi hj hl hlj)
      refine ⟨hns, ?_, hlj, rfl⟩
      intro e
      rcases hnew with hnew | hnew
      · have := (h.obj j b t hj).blt hlj; omega
      · subst e; exact hns p.2 hnew
  refine ⟨⟨?_, ?_, ?_, ?_⟩, hM0, hρ, ?_, (fun i h1 h2 => by
    simp only [Heap.new, hn1] at h2
    have e : i = H.next := by omega
    subst e; exact ⟨_, upd_same _ _ _⟩), hos.1, hos.2.1, hos.2.2, hsz, ?_, ?_, ?_, ?_, fun j => j = i ∨ (H.obj i).relOf = some j, ?_, ?_, ?_, ?_, ?_, ?_⟩
  · intro b o hb
    have hb1 := h.memlt hb
    rw [hblk b hb1 (fun t ht e => by
      have := live_free (h.obj i b t ht) hl; simp [hb] at this)]
    exact h.mem b o hb
  · intro j q hj
    simp only [Heap.new, hn1]
    by_cases e : j = H.next
    · omega
    · rw [upd_ne _ _ e] at hj; have := h.dom j q hj; omega
  · intro j b s hj
    rw [obj']
    by_cases e : j = H.next
    · subst e
      rw [upd_same] at hj; cases hj
      rw [if_pos rfl]
      obtain ⟨g1, c, T, mk, g2, g3, g4, g5, g6⟩ := h2
      exact ⟨g1, c, T, mk, g2, g3, g4, g5, g6.mono hM0 hρ⟩
    · rw [upd_ne _ _ e] at hj
      rw [if_neg e]
      by_cases e2 : j = i
      · subst e2
        rw [if_pos rfl]
        obtain ⟨g1, c, T, mk, g2, g3, g4, g5, g6⟩ := h1 b s hj
        exact ⟨g1, c, T, mk, g2, g3, g4, g5, g6.mono hM0 hρ⟩
      · rw [if_neg e2]
        split
        · trivial
        · rename_i hr
          have h6 := h.obj j b s hj
          refine h6.mono hM0 hρ (fun hlj => live_free h6 hlj) (fun hlj => ?_)
          have := oth e e2 hj (by rw [obj', if_neg e, if_neg e2, if_neg hr]; exact hlj)
          exact hblk b (h6.blt hlj) (fun t ht => absurd ht (this.1 t))
  · intro x y b s t hxy hx hy hl1 hl2
    by_cases e : x = H.next
    · subst e
      rw [upd_same] at hx; cases hx
      rw [obj', if_pos rfl]
      rw [upd_ne _ _ (fun e => hxy e.symm)] at hy
      by_cases e2 : y = i
      · subst e2; rfl
      · have := oth (fun e => hxy e.symm) e2 hy hl2
        exact absurd rfl this.2.1
    · rw [upd_ne _ _ e] at hx
      by_cases e2 : x = i
      · subst e2
        rw [obj', if_neg e, if_pos rfl]
        by_cases e3 : y = H.next
        · subst e3; rfl
        · rw [upd_ne _ _ e3] at hy
          have := oth e3 (fun e => hxy e.symm) hy hl2
          exact absurd hx (this.1 s)
      · have hxx := oth e e2 hx hl1
        by_cases e3 : y = H.next
        · subst e3
          rw [upd_same] at hy; cases hy
          exact absurd rfl hxx.2.1
        · rw [upd_ne _ _ e3] at hy
          by_cases e4 : y = i
          · subst e4; exact absurd hy (hxx.1 t)
          · have hyy := oth e3 e4 hy hl2
            rw [hxx.2.2.2]
            exact h.sep x y b s t hxy hx hy hxx.2.2.1 hyy.2.2.1
  · intro j hj; rw [upd_ne _ _ (by omega)]
  · simp only [Heap.new, hn1]; omega
  · simp only [Heap.new]; exact hn2
  · simp only [Heap.new]; omega
  · intro j hj; exact hw1 j hj
  · intro j hj hb; exact hw2 j hj hb
  · intro j _; exact hn3
  · intro j hj hT
    rw [obj', if_neg (by omega), if_neg (fun e => hT (.inl e)), if_neg (fun e => hT (.inr e))]
  · intro b hb hT
    exact hblk b hb (fun t ht e => hT i (b, t) (.inl rfl) ht rfl)
  · intro b o h3 h4; simp [h3] at h4
  · intro j q hj hq
    by_cases e : j = H.next
    · subst e
      rw [upd_same] at hq; cases hq
      rcases hnew with hnew | hnew
      · exact .inl hnew
      · exact .inr ⟨i, p, .inl rfl, hnew, rfl⟩
    · rw [upd_ne _ _ e] at hq; have := h.dom j q hq; omega

end Go.Mach
