/-
  The translation of the model's operations into the machine's, and that the operations which leave the heap alone do what the model does. By an AI agent.
-/
import Derived.Test.YtpifopfpgfbdgaaMb
import Derived.Laws.Cells
set_option linter.unusedSimpArgs false
set_option linter.unusedVariables false
namespace Go.Mach

/-! ### Translation -/
def trC : Value → Option AV
  | .int k n => some (.int k n)
  | .bool b => some (.bool b)
  | .string s => some (.str s)
  | .pointer none => some .nilp
  | .slice none 0 0 => some .nils
  | .nilFunc => some .nilf
  | .map none => some .nilm
  | _ => none

def trCs : List Value → Option (List AV)
  | [] => some []
  | d :: ds => match trC d, trCs ds with
    | some v, some vs => some (v :: vs)
    | _, _ => none

def trV : Value → Option AV
  | .agg cs => match trCs cs.toList with
    | some l => some (.agg l)
    | none => none
  | d => trC d

def trO : Operand → Option AOpd
  | .tmp t => some (.t t)
  | .const v => match trV v with
    | some a => some (.c a)
    | none => none
  | .global _ => none
  | .func f => some (.c (.fn f [] []))

def trOs : List Operand → Option (List AOpd)
  | [] => some []
  | x :: xs => match trO x, trOs xs with
    | some a, some as => some (a :: as)
    | _, _ => none

def trOO : Option Operand → Option (Option AOpd)
  | none => some none
  | some x => match trO x with
    | some a => some (some a)
    | none => none

def aggOf (P : Program) (t : TypeId) : Option Bool :=
  match P.underlying t with
  | some (.struct _) => some true
  | some (.array _ _) => some true
  | some _ => some false
  | none => none

/-- The zero value's cells. -/
def zeroOf (P : Program) (t : TypeId) : Option (List AV) :=
  match P.info? t with
  | some i => match i.zero with
    | some z => match trCs z.cells.toList with
      | some l => if l.length = i.size then some l else none
      | none => none
    | none => none
  | none => none

def trParts (place : Nat → Option (Nat × Nat)) : List (Nat × Operand) → Option (List (Nat × Nat × AOpd))
  | [] => some []
  | (i, x) :: r => match place i, trO x, trParts place r with
    | some (o, n), some a, some l => some ((o, n, a) :: l)
    | _, _, _ => none

def placesOf (P : Program) : List Field → Option (List (Nat × Nat))
  | [] => some []
  | f :: r => match P.info? f.type, placesOf P r with
    | some i, some l => some ((f.offset, i.size) :: l)
    | _, _ => none

def isCmp : BinOp → Option Bool
  | .eql => some false
  | .neq => some true
  | _ => none

def trBin (P : Program) (op : BinOp) (t : TypeId) (x y : AOpd) : Option AOp :=
  match isCmp op with
  | none => some (.bin op x y)
  | some neg => match P.underlying t with
    | some (.int _) => some (.bin op x y)
    | some .string => some (.bin op x y)
    | some .bool => some (.eqb neg x y)
    | some (.array n e) => match P.underlying e with
      | some (.int _) => match P.info? e with
        | some i => if i.size = 1 ∧ P.eqGuardType P.depth t = false ∧ n < 10000 then some (.eqa neg n x y) else none
        | none => none
      | _ => none
    | some (.pointer _) => some (.eqn 0 neg x y)
    | some (.slice _) => some (.eqn 1 neg x y)
    | some (.map _ _) => some (.eqn 2 neg x y)
    | some (.func _ _ _) => some (.eqn 3 neg x y)
    | _ => none

def trKey (P : Program) (t : TypeId) : Option Bool :=
  match P.underlying t with
  | some (.int _) => some false
  | some .string => some true
  | _ => none

def trBuiltin (P : Program) (b : Builtin) (argTypes : List TypeId) (args : List AOpd) : Option AOp :=
  match b, argTypes, args with
  | .len, [t], [x] => match P.underlying t with
    | some (.array n _) => some (.lenc n)
    | some .string => some (.len 0 x)
    | some (.slice _) => some (.len 1 x)
    | some (.map _ _) => some (.len 2 x)
    | _ => none
  | .cap, [t], [x] => match P.underlying t with
    | some (.slice _) => some (.cap x)
    | _ => none
  | .append, [t, u], [x, y] => match P.underlying t with
    | some (.slice e) => match P.info? e, zeroOf P e, P.underlying u with
      | some i, some _, some (.slice _) => if 0 < i.bytes ∧ 0 < i.size then some (.app i.size i.bytes x y) else none
      | _, _, _ => none
    | _ => none
  | .copy, [t, u], [x, y] => match P.underlying t with
    | some (.slice e) => match P.info? e, P.underlying u with
      | some i, some (.slice _) => some (.cpy i.size x y)
      | _, _ => none
    | _ => none
  | .clear, [t], [x] => match P.underlying t with
    | some (.slice e) => match P.info? e, zeroOf P e with
      | some i, some z => some (.clr i.size z x)
      | _, _ => none
    | _ => none
  | .min, _, xs => some (.minmax false xs)
  | .max, _, xs => some (.minmax true xs)
  | _, _, _ => none

def trOp (P : Program) : Op → Option AOp
  | .move x | .assign x => match trO x with
    | some a => some (.mv a)
    | none => none
  | .pick c a b => match trO c, trO a, trO b with
    | some c, some a, some b => some (.pick c a b)
    | _, _, _ => none
  | .alloc t => match zeroOf P t with
    | some z => some (.alloc z)
    | none => none
  | .box _ x => match trO x with
    | some a => some (.box a)
    | none => none
  | .build t parts => match zeroOf P t, P.underlying t with
    | some z, some (.struct fields) => match placesOf P fields.toList with
      | some pl => match trParts (fun i => pl[i]?) parts.toList with
        | some l => some (.build z l)
        | none => none
      | none => none
    | some z, some (.array _ e) => match P.info? e with
      | some i => match trParts (fun j => some (j * i.size, i.size)) parts.toList with
        | some l => some (.build z l)
        | none => none
      | none => none
    | _, _ => none
  | .buildSlice t len parts => match P.underlying t with
    | some (.slice e) => match P.info? e, zeroOf P e with
      | some i, some z => match trParts (fun j => some (j * i.size, i.size)) parts.toList with
        | some l => if len * i.size ≤ 2 ^ 24 ∧ 0 < i.size then some (.bslice len i.size (List.replicate len z).flatten l) else none
        | none => none
      | _, _ => none
    | _ => none
  | .load t a => match aggOf P t, P.info? t, trO a with
    | some g, some i, some a => some (.load g i.size a)
    | _, _, _ => none
  | .store t a x => match P.info? t, trO a, trO x with
    | some i, some a, some x => some (.store i.size a x)
    | _, _, _ => none
  | .nilCheck x => match trO x with
    | some a => some (.nchk a)
    | none => none
  | .binOp op t x y _ => match trO x, trO y with
    | some a, some b => trBin P op t a b
    | _, _ => none
  | .unOp op _ x => match trO x with
    | some a => some (.un op a)
    | none => none
  | .convert src dst x => match trO x, P.underlying src, P.underlying dst with
    | some a, some _, some (.int k) => some (.cvi k a)
    | some a, some (.slice e), some .string => match P.underlying e with
      | some (.int .u8) => some (.cvbs a)
      | _ => none
    | _, _, _ => none
  | .makeFunc (.func f) first caps => match trOs first.toList, trOs caps.toList with
    | some a, some b => some (.mkf f a b)
    | _, _ => none
  | .makeMap t hint => match P.underlying t, trOO hint with
    | some (.map _ _), some h => some (.mkm h)
    | _, _ => none
  | .makeSlice t l c => match P.underlying t with
    | some (.slice e) => match P.info? e, zeroOf P e, trO l, trO c with
      | some i, some z, some l, some c => if 0 < i.size ∧ 0 < i.bytes then some (.mks i.size z i.bytes l c) else none
      | _, _, _, _ => none
    | _ => none
  | .slice t x lo hi mx => match trO x, trOO lo, trOO hi, trOO mx with
    | some x, some lo, some hi, some mx => match P.underlying t with
      | some (.array n e) => match P.info? e with
        | some i => some (.slc (.arr n) i.size x lo hi mx)
        | none => none
      | some (.slice e) => match P.info? e with
        | some i => some (.slc .sli i.size x lo hi mx)
        | none => none
      | some .string => if mx.isNone then some (.slc .str 0 x lo hi none) else none
      | _ => none
    | _, _, _, _ => none
  | .fieldAddr s x f => match trO x, P.underlying s with
    | some x, some (.struct fields) => match fields[f]? with
      | some fd => match P.info? fd.type with
        | some i => if i.size = 0 then none else some (.faddr fd.offset x)
        | none => none
      | none => none
    | _, _ => none
  | .field s x f => match trO x, P.underlying s with
    | some x, some (.struct fields) => match fields[f]? with
      | some fd => match aggOf P fd.type, P.info? fd.type with
        | some g, some i => some (.fld g fd.offset i.size x)
        | _, _ => none
      | none => none
    | _, _ => none
  | .indexAddr t x i => match trO x, trO i, P.underlying t with
    | some x, some ix, some (.array n e) => match P.info? e with
      | some j => some (.iaddr (some n) j.size x ix)
      | none => none
    | some x, some ix, some (.slice e) => match P.info? e with
      | some j => some (.iaddr none j.size x ix)
      | none => none
    | _, _, _ => none
  | .index t x i => match trO x, trO i, P.underlying t with
    | some x, some ix, some (.array n e) => match P.info? e, aggOf P e with
      | some j, some g => some (.idx g n j.size x ix)
      | _, _ => none
    | some x, some ix, some .string => some (.idxs x ix)
    | _, _, _ => none
  | .extract x i => match trO x with
    | some x => some (.ext x i)
    | none => none
  | .lookup t m k ok => match trO m, trO k, P.underlying t with
    | some m, some k, some (.map kt e) => match P.info? e with
      | some i => match i.zero with
        | some z => match trV z with
          | some z => match trKey P kt with
            | some b => some (.lkp b z ok m k)
            | none => none
          | none => none
        | none => none
      | none => none
    | _, _, _ => none
  | .mapUpdate t m k v => match trO m, trO k, trO v, P.underlying t with
    | some m, some k, some v, some (.map kt _) => match trKey P kt with
      | some b => some (.mpu b m k v)
      | none => none
    | _, _, _, _ => none
  | .call c => match trOs c.args.toList with
    | some args => match c.callee with
      | .value g => match trO g with
        | some g => some (.call g args)
        | none => none
      | .builtin b => trBuiltin P b c.argTypes.toList args
      | .invoke _ _ => none
    | none => none
  | _ => none

/-! ### Facts -/
variable {P : Program} {M : Mem} {ρ : Rho} {H : Heap} {w : World}

theorem trC_rel {d : Value} {v : AV} (h : trC d = some v) : v.isCell = true ∧ VRel M ρ v d := by
  unfold trC at h
  split at h <;> first | (cases h; exact ⟨rfl, by constructor⟩) | cases h

theorem trC_pure {d : Value} {v : AV} (h : trC d = some v) : v.pure = true := by
  unfold trC at h
  split at h <;> first | (cases h; rfl) | cases h

theorem trCs_len {ds : List Value} : ∀ {vs : List AV}, trCs ds = some vs → vs.length = ds.length := by
  induction ds with
  | nil => intro vs h; cases h; rfl
  | cons d ds ih =>
    intro vs h
    simp only [trCs] at h
    split at h
    · cases h; simp [ih (by assumption)]
    · cases h

theorem trCs_rel {ds : List Value} : ∀ {vs : List AV}, trCs ds = some vs → ∀ i (h1 : i < vs.length) (h2 : i < ds.length), vs[i].isCell = true ∧ VRel M ρ vs[i] ds[i] := by
  induction ds with
  | nil => intro vs h; cases h; intro i h1; simp at h1
  | cons d ds ih =>
    intro vs h
    simp only [trCs] at h
    split at h
    · rename_i v vs' hv hvs
      cases h
      intro i h1 h2
      cases i with
      | zero => exact trC_rel hv
      | succ i => exact ih hvs i (by simpa using h1) (by simpa using h2)
    · cases h

theorem trV_rel {d : Value} {v : AV} (h : trV d = some v) : VRel M ρ v d := by
  unfold trV at h
  split at h
  · rename_i cs
    split at h
    · rename_i l hl
      cases h
      have hlen := trCs_len hl
      refine .agg (by simpa using hlen.symm) (fun i h1 => (trCs_rel (M := M) (ρ := ρ) hl i h1 (by omega)).1) fun i h1 h2 => ?_
      have := (trCs_rel (M := M) (ρ := ρ) hl i h1 (by simpa using h2)).2
      simpa using this
    · cases h
  · exact (trC_rel h).2

/-- The operands, read in the machine and in the model. -/
def Reads (M : Mem) (ρ : Rho) (f : AOpd → AV) (e : Operand → Value) : Prop := ∀ x a, trO x = some a → VRel M ρ (f a) (e x)

theorem trOs_len {xs : List Operand} : ∀ {as : List AOpd}, trOs xs = some as → as.length = xs.length := by
  induction xs with
  | nil => intro as h; cases h; rfl
  | cons d ds ih =>
    intro vs h
    simp only [trOs] at h
    split at h
    · cases h; simp [ih (by assumption)]
    · cases h

theorem trOs_rel {f : AOpd → AV} {e : Operand → Value} (hr : Reads M ρ f e) {xs : List Operand} : ∀ {as : List AOpd}, trOs xs = some as → ∀ i (h1 : i < as.length) (h2 : i < xs.length), VRel M ρ (f as[i]) (e xs[i]) := by
  induction xs with
  | nil => intro vs h; cases h; intro i h1; simp at h1
  | cons d ds ih =>
    intro vs h
    simp only [trOs] at h
    split at h
    · rename_i v vs' hv hvs
      cases h
      intro i h1 h2
      cases i with
      | zero => exact hr _ _ hv
      | succ i => exact ih hvs i (by simpa using h1) (by simpa using h2)
    · cases h

theorem run_und {t : TypeId} {d : TypeDesc} (h : P.underlying t = some d) (w : World) : (underlying t).run P w = .ok d w := by
  simp [underlying, h]
theorem run_info {t : TypeId} {i : TypeInfo} (h : P.info? t = some i) (w : World) : (typeInfo t).run P w = .ok i w := by
  simp [typeInfo, h]
theorem run_size {t : TypeId} {i : TypeInfo} (h : P.info? t = some i) (w : World) : (sizeOf t).run P w = .ok i.size w := by
  simp [sizeOf, run_info h]
theorem run_zero {t : TypeId} {i : TypeInfo} {z : Value} (h : P.info? t = some i) (hz : i.zero = some z) (w : World) : (zeroValue t).run P w = .ok z w := by
  simp [zeroValue, run_info h, hz]
theorem run_agg {t : TypeId} {g : Bool} (h : aggOf P t = some g) (w : World) : (isAgg t).run P w = .ok g w := by
  unfold aggOf at h
  split at h
  · rename_i hd; cases h; simp [isAgg, run_und hd]
  · rename_i hd; cases h; simp [isAgg, run_und hd]
  · rename_i d _ _ hd
    cases h
    simp only [isAgg, Sem.run_bind, run_und hd, Result.andThen_ok]
    first | rfl | (split <;> first | rfl | (exfalso; simp_all))
  · cases h

theorem zeroOf_rel {t : TypeId} {l : List AV} (h : zeroOf P t = some l) : ∃ i z, P.info? t = some i ∧ i.zero = some z ∧ l.length = i.size ∧ l.length = z.cells.size ∧ CRel M ρ l z.cells ∧ (∀ v ∈ l, v.pure = true) := by
  unfold zeroOf at h
  split at h
  · rename_i i hi
    split at h
    · rename_i z hz
      split at h
      · rename_i l' hl
        split at h
        · rename_i hlen
          cases h
          refine ⟨i, z, hi, hz, hlen, by simpa using trCs_len hl, fun j h1 h2 => by
            have := trCs_rel (M := M) (ρ := ρ) hl j h1 (by simpa using h2)
            rw [Array.getElem_toList] at this; exact this, ?_⟩
          clear hlen hz hi
          generalize z.cells.toList = ds at hl
          induction ds generalizing l with
          | nil => cases hl; simp
          | cons d ds ih =>
            simp only [trCs] at hl
            split at hl
            · rename_i v vs hv hvs
              cases hl
              intro x hx
              rcases List.mem_cons.1 hx with rfl | hx
              · exact trC_pure hv
              · exact ih hvs x hx
            · cases hl
        · cases h
      · cases h
    · cases h
  · cases h

/-! ### Reading cells -/
theorem addr_add (b o n : Nat) : (⟨b, o, none⟩ : Addr).add n = ⟨b, o + n, none⟩ := by
  unfold Addr.add
  split <;> simp_all

theorem cell_at {b : Nat} {c : Array Value} {T : TypeId} {mk : Nat × Nat} (h : w.heap[b]? = some (.cells c T mk)) (o : Nat) : w.cell? ⟨b, o, none⟩ = c[o]? := by
  simp [World.cell?, h]

theorem run_cells {b : Nat} {c : Array Value} {T : TypeId} {mk : Nat × Nat} (h : w.heap[b]? = some (.cells c T mk)) (o n : Nat) (hs : o + n ≤ c.size) :
    (loadCells ⟨b, o, none⟩ n).run P w = .ok (c.extract o (o + n)) w := by
  rw [run_loadCells w ⟨b, o, none⟩ n (fun j => c.getD (o + j) undef) (fun j hj => by
    rw [addr_add, cell_at h, Array.getD_eq_getD_getElem?, Array.getElem?_eq_getElem (by omega)]; rfl)]
  congr 1
  apply Array.ext
  · simp; omega
  · intro i h1 h2
    simp at h1
    simp [Array.getElem?_eq_getElem (show o + i < c.size by omega)]

theorem run_cell {b : Nat} {c : Array Value} {T : TypeId} {mk : Nat × Nat} (h : w.heap[b]? = some (.cells c T mk)) (o : Nat) (hs : o < c.size) :
    (load ⟨b, o, none⟩).run P w = .ok c[o] w := by
  rw [run_load, cell_at h, Array.getElem?_eq_getElem hs]

theorem read_rel (hR : Rel M ρ H w) {id b sz : Nat} {cs : List AV} (hi : ρ id = some (b, sz)) (h : H.read id = some cs) :
    ∃ (c : Array Value) (T : TypeId) (mk : Nat × Nat), w.heap[b]? = some (.cells c T mk) ∧ c.size = sz ∧ cs.length ≤ sz ∧ CRel M ρ cs c := by
  have ho := hR.obj id b sz hi
  unfold Heap.read at h
  split at h
  · rename_i cs' rel hx
    cases h
    rw [hx] at ho
    obtain ⟨_, c, T, mk, h1, h2, h3, h4, h5⟩ := ho
    exact ⟨c, T, mk, h1, h3, h4, h5⟩
  · rename_i cs' hx
    cases h
    rw [hx] at ho
    obtain ⟨c, T, mk, h1, h2, h3, h4⟩ := ho
    exact ⟨c, T, mk, hR.mem _ _ h1, h2, h3, h4.mono (fun _ _ h => h) (fun i p h => by cases h)⟩
  · cases h

theorem part_rel {agg : Bool} {n off : Nat} {cs : List AV} {r : AV} {c : Array Value} {o : Nat} (h : part agg n cs off = some r) (hl : o + cs.length ≤ c.size)
    (hc : ∀ i (h1 : i < cs.length) (h2 : o + i < c.size), cs[i].isCell = true ∧ VRel M ρ cs[i] c[o + i]) :
    (agg = true → o + off + n ≤ c.size ∧ VRel M ρ r (.agg (c.extract (o + off) (o + off + n)))) ∧ (agg = false → ∃ h : o + off < c.size, VRel M ρ r c[o + off]) := by
  unfold part at h
  cases agg with
  | true =>
    simp only [if_true] at h
    split at h
    · rename_i hle
      cases h
      refine ⟨fun _ => ⟨by omega, ?_⟩, (fun h => by cases h)⟩
      refine .agg (by simp; omega) (fun i h1 => ?_) fun i h1 h2 => ?_
      · simp only [List.length_take, List.length_drop] at h1
        simp only [List.getElem_take, List.getElem_drop]
        exact (hc (off + i) (by omega) (by omega)).1
      · simp only [List.length_take, List.length_drop] at h1
        simp only [List.getElem_take, List.getElem_drop, Array.getElem_extract]
        have := (hc (off + i) (by omega) (by omega)).2
        simpa [Nat.add_assoc] using this
    · cases h
  | false =>
    simp only [Bool.false_eq_true, if_false] at h
    refine ⟨(fun h => by cases h), fun _ => ?_⟩
    obtain ⟨hlt, rfl⟩ := List.getElem?_eq_some_iff.1 h
    exact ⟨by omega, (hc off hlt (by omega)).2⟩

theorem run_part {t : TypeId} {agg : Bool} {i : TypeInfo} (hg : aggOf P t = some agg) (hi : P.info? t = some i) {cs : List AV} {r : AV} {ds : Array Value} {off : Nat} (h : part agg i.size cs off = some r)
    (hl : ds.size = cs.length) (hc : ∀ j (h1 : j < cs.length) (h2 : j < ds.size), cs[j].isCell = true ∧ VRel M ρ cs[j] ds[j]) : ∃ r', (Go.part t ds off).run P w = .ok r' w ∧ VRel M ρ r r' := by
  have hp := part_rel (M := M) (ρ := ρ) (c := ds) (o := 0) h (by omega) (fun j h1 h2 => by simpa using hc j h1 (by omega))
  simp only [Nat.zero_add] at hp
  cases agg with
  | true =>
    obtain ⟨h1, h2⟩ := hp.1 rfl
    exact ⟨_, by simp [Go.part, run_agg hg, run_size hi], h2⟩
  | false =>
    obtain ⟨h1, h2⟩ := hp.2 rfl
    exact ⟨_, by simp [Go.part, run_agg hg, h1], h2⟩

theorem loadA_rel (hR : Rel M ρ H w) {t : TypeId} {agg : Bool} {i : TypeInfo} (hg : aggOf P t = some agg) (hi : P.info? t = some i) {v : AV} {d : Value} (hv : VRel M ρ v d) {r : AV} (h : loadA H agg i.size v = some r) :
    ∃ r', (Instr.loadAt t d).run P w = .ok r' w ∧ VRel M ρ r r' := by
  have key : ∀ (b o off : Nat) (cs : List AV) (c : Array Value) (T : TypeId) (mk : Nat × Nat), w.heap[b]? = some (.cells c T mk) → part agg i.size cs off = some r → o + cs.length ≤ c.size →
      (∀ i (h1 : i < cs.length) (h2 : o + i < c.size), cs[i].isCell = true ∧ VRel M ρ cs[i] c[o + i]) → ∃ r', (Instr.loadAt t (.pointer (some ⟨b, o + off, none⟩))).run P w = .ok r' w ∧ VRel M ρ r r' := by
    intro b o off cs c T mk hb hp hl hc
    have hh := part_rel (M := M) (ρ := ρ) hp hl hc
    cases agg with
    | true =>
      obtain ⟨h1, h2⟩ := hh.1 rfl
      exact ⟨_, by simp [Instr.loadAt, Instr.sureAddr, loadVar, run_agg hg, run_size hi, run_cells hb _ _ h1], h2⟩
    | false =>
      obtain ⟨h1, h2⟩ := hh.2 rfl
      refine ⟨_, ?_, h2⟩
      have h3 := run_cell (P := P) hb _ h1
      simp only [Instr.loadAt, Instr.sureAddr, loadVar, Sem.run_bind, Sem.run_pure, Result.andThen_ok, run_agg hg, Bool.false_eq_true, if_false, h3]
  unfold loadA at h
  split at h
  · rename_i id off
    split at h
    · rename_i cs hcs
      cases hv with
      | ptr off hid =>
        obtain ⟨c, T, mk, h1, h2, h3, h4⟩ := read_rel hR hid hcs
        have := key _ 0 off cs c T mk h1 h (by omega) (fun j h5 h6 => by simpa using h4 j h5 (by omega))
        simpa using this
    · cases h
  · rename_i cs off
    cases hv with
    | pv off o hb hs hp hc =>
      exact key _ o off cs _ _ _ (hR.mem _ _ hb) h hs (fun j h5 h6 => ⟨hp j h5, (hc j h5 h6).mono (fun _ _ h => h) (fun i p h => by cases h)⟩)
  · cases h

end Go.Mach
