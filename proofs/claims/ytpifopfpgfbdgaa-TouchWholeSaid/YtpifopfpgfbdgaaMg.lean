/-
  The operations that make or write memory do what the model does. By an AI agent.
-/
import Derived.Test.YtpifopfpgfbdgaaMf
set_option linter.unusedSimpArgs false
set_option linter.unusedVariables false
namespace Go.Mach
variable {P : Program} {M : Mem} {ρ : Rho} {H H' : Heap} {w : World} {f : AOpd → AV} {e : Operand → Value} {o : Oper} {v : AV}

def Hop (P : Program) (M : Mem) (ρ : Rho) (H : Heap) (w : World) (e : Operand → Value) (o : Oper) (v : AV) (H' : Heap) : Prop :=
  ∃ M' ρ' w', Step M ρ H w M' ρ' H' w' ∧ ((∃ v', (execOp e o).run P w = .ok (.value v') w' ∧ VRel M' ρ' v v') ∨ ((execOp e o).run P w = .ok .skip w' ∧ v = undefA))

theorem Rel.free (hR : Rel M ρ H w) : M w.heap.size = none := by
  cases hm : M w.heap.size with
  | none => rfl
  | some o => have := hR.memlt hm; omega

/-- A new live row. -/
theorem Step.row (hR : Rel M ρ H w) (cs : List AV) (c : Array Value) (T : TypeId) (hl : cs.length ≤ c.size) (hc : CRel M ρ cs c) :
    Step M ρ H w M (upd ρ H.next (some (w.heap.size, c.size))) (H.new (.cells cs none)) (push w (.cells c T)) :=
  Step.new hR _ _ _ rfl ⟨hR.free, c, T, (0, 0), push_new, Nat.le_refl _, rfl, hl, hc⟩

theorem run_newRow (T : TypeId) (c : Array Value) : (newRow T c).run P w = .ok ⟨w.heap.size, 0, none⟩ (push w (.cells c T)) := by
  simp [newRow, push]

theorem hop_box {t : TypeId} {x : Operand} {a : AOpd} (hR : Rel M ρ H w) (hr : Reads M ρ f e) (hop : o.op = .box t x) (hx : trO x = some a) (h : heapA f H (.box a) = some (v, H')) : Hop P M ρ H w e o v H' := by
  have hv := hr _ _ hx
  simp only [heapA] at h
  split at h
  · rename_i cs hcs
    cases h
    obtain ⟨h1, h2⟩ := flat_rel hv hcs
    refine ⟨_, _, _, Step.row hR cs (e x).cells t (by omega) h2, .inl ⟨_, ?_, .ptr 0 (upd_same _ _ _)⟩⟩
    simp only [execOp, hop, Instr.box, newVar, Sem.run_bind, run_newRow, Result.andThen_ok, Sem.run_pure]
  · cases h

theorem hop_alloc {t : TypeId} {z : List AV} (hR : Rel M ρ H w) (hop : o.op = .alloc t) (hz : zeroOf P t = some z) (h : heapA f H (.alloc z) = some (v, H')) : Hop P M ρ H w e o v H' := by
  simp only [heapA] at h
  cases h
  obtain ⟨i, zv, h1, h2, h3, h4, h5, _⟩ := zeroOf_rel (M := M) (ρ := ρ) hz
  refine ⟨_, _, _, Step.row hR z zv.cells t (by omega) h5, .inl ⟨_, ?_, .ptr 0 (upd_same _ _ _)⟩⟩
  simp only [execOp, hop, Instr.alloc, newVar, Sem.run_bind, run_zero h1 h2, run_newRow, Result.andThen_ok, Sem.run_pure]

theorem flatten_rep {α : Type} (z : List α) : ∀ (n i : Nat) (h : i < (List.replicate n z).flatten.length), (hz : 0 < z.length) → (List.replicate n z).flatten[i] = z[i % z.length]'(Nat.mod_lt _ hz) := by
  intro n
  induction n with
  | zero => intro i h; simp at h
  | succ n ih =>
    intro i h hz
    simp only [List.replicate_succ, List.flatten_cons] at h ⊢
    rw [List.getElem_append]
    split
    · rename_i hi; congr 1; exact (Nat.mod_eq_of_lt hi).symm
    · rename_i hi
      rw [ih (i - z.length) _ hz]
      congr 1
      rw [Nat.mod_eq_sub_mod (Nat.le_of_not_lt hi)]

theorem flatten_len {α : Type} (z : List α) (n : Nat) : (List.replicate n z).flatten.length = n * z.length := by simp

/-- Rows of zero values. -/
theorem zeros_rel {z : List AV} {c : Array Value} (hc : CRel M ρ z c) (hl : z.length = c.size) (n : Nat) (hz : 0 < c.size) :
    CRel M ρ (List.replicate n z).flatten ((Array.range (n * c.size)).map fun i => c[i % c.size]!) ∧ ((Array.range (n * c.size)).map fun i => c[i % c.size]!).size = (List.replicate n z).flatten.length := by
  constructor
  · intro i h1 h2
    rw [flatten_rep z n i h1 (by omega)]
    have hm : i % c.size < c.size := Nat.mod_lt _ hz
    have e1 : ((Array.range (n * c.size)).map fun i => c[i % c.size]!)[i] = c[i % c.size] := by
      simp [hm]
    rw [e1]
    have := hc (i % z.length) (by rw [hl]; exact hm) (by rw [hl]; exact hm)
    simp only [hl] at this ⊢
    exact this
  · rw [flatten_len]; simp [hl]

theorem hop_bslice {t el : TypeId} {n : Nat} {parts : Array (Nat × Operand)} {ti : TypeInfo} {z : List AV} {l : List (Nat × Nat × AOpd)} (hR : Rel M ρ H w) (hr : Reads M ρ f e) (hop : o.op = .buildSlice t n parts)
    (ht : P.underlying t = some (.slice el)) (hi : P.info? el = some ti) (hz : zeroOf P el = some z) (hl : trParts (fun j => some (j * ti.size, ti.size)) parts.toList = some l) (hb : n * ti.size ≤ 2 ^ 24 ∧ 0 < ti.size)
    (h : heapA f H (.bslice n ti.size (List.replicate n z).flatten l) = some (v, H')) : Hop P M ρ H w e o v H' := by
  simp only [heapA] at h
  split at h
  · rename_i cs hcs
    obtain ⟨i, zv, h1, h2, h3, h4, h5, _⟩ := zeroOf_rel (M := M) (ρ := ρ) hz
    rw [hi] at h1
    cases h1
    have hzs : zv.cells.size = ti.size := by omega
    obtain ⟨g1, g2⟩ := zeros_rel h5 h4 n (by omega)
    obtain ⟨c', e1, e2, e3, e4⟩ := fill_rel hr _ hl g1 g2 hcs
    have hzl : z.length = ti.size := by omega
    have hlen : cs.length = n * ti.size := by rw [e4, flatten_len, hzl]
    have hrun : (execOp e o).run P w = .ok (.value (.slice (some ⟨w.heap.size, 0, none⟩) n n)) (push w (.cells c' el)) := by
      have e1' : Instr.fill (fun j => some (j * ti.size, ti.size)) ((Array.range (n * ti.size)).map fun i => zv.cells[i % zv.cells.size]!) (parts.map fun (p : Nat × Operand) => (p.1, e p.2)).toList = some c' := by
        rw [parts_toList]; rw [hzs] at e1 ⊢; exact e1
      simp only [execOp, hop, Instr.buildSlice, Sem.run_bind, run_und ht, Result.andThen_ok, run_size hi, Sem.run_ite]
      rw [if_neg (by omega)]
      by_cases h0 : n * ti.size = 0
      · rw [if_pos h0]
        have e2' : Instr.fill (fun j => some (j * ti.size, ti.size)) ((Array.range (n * ti.size)).map fun i => (#[] : Array Value)[i % (#[] : Array Value).size]!) (parts.map fun (p : Nat × Operand) => (p.1, e p.2)).toList = some c' := by
          have ea : (Array.range (n * ti.size)).map (fun i => (#[] : Array Value)[i % (#[] : Array Value).size]!) = (Array.range (n * ti.size)).map fun i => zv.cells[i % zv.cells.size]! := by
            rw [h0]; simp
          rw [ea]; exact e1'
        simp only [Sem.run_pure, Result.andThen_ok, e2', Sem.run_bind, run_newRow]
      · rw [if_neg h0]
        simp only [Sem.run_bind, run_zero hi h2, Result.andThen_ok, Sem.run_pure, e1', run_newRow]
    split at h
    · rename_i hpure
      cases h
      refine ⟨_, _, _, Step.newfrz hR (.cells c' el), .inl ⟨_, hrun, ?_⟩⟩
      have hp : ∀ i (h1 : i < cs.length) (h2 : i < c'.size), VRel M noRho cs[i] c'[i] := fun i h1 h2 => (e2 i h1 h2).2.pure (List.all_eq_true.1 hpure _ (List.getElem_mem h1))
      have hM : ∀ b o, M b = some o → upd M w.heap.size (some (.cells c' el)) b = some o := fun b o hb => by
        rw [upd_ne _ _ (by have := hR.memlt hb; omega)]; exact hb
      refine .vec n n true 0 (upd_same _ _ _) (by omega) (fun i h1 => (e2 i h1 (by omega)).1) (fun i h1 h2 => ?_) (fun _ => rfl) (Nat.le_refl _)
      have := (hp i h1 (by omega)).mono hM (fun _ _ h => h)
      simpa using this
    · split at h
      · rename_i hle
        cases h
        refine ⟨_, _, _, Step.row hR cs c' el (by omega) e2, .inl ⟨_, hrun, ?_⟩⟩
        exact .sl 0 n n n true _ (upd_same _ _ _) (Nat.le_refl _) (fun _ => rfl) (by omega)
      · cases h
  · cases h

theorem wrap_i64 {n : Int} (h0 : 0 ≤ n) (h : n < 2 ^ 63) : IntKind.i64.wrap n = n := by
  have e1 : n % (2 ^ IntKind.i64.bits : Int) = n := Int.emod_eq_of_lt h0 (by show n < 2 ^ 64; omega)
  simp only [IntKind.wrap, e1]
  rw [if_neg]
  show ¬ (true && decide (n ≥ 2 ^ 63)) = true
  simp only [Bool.true_and, decide_eq_true_eq]
  omega

/-! ### Writes -/
theorem setCell_blk {b : Nat} {c : Array Value} {T : TypeId} {mk : Nat × Nat} (h : w.heap[b]? = some (.cells c T mk)) (o : Nat) (d : Value) : w.setCell ⟨b, o, none⟩ d = setBlk w b (.cells (c.setIfInBounds o d) T mk) := by
  have hlt := lt_of_some h
  unfold World.setCell setBlk
  congr 1
  apply Array.ext
  · simp
  · intro i h1 h2
    rw [Array.getElem_modify, Array.getElem_setIfInBounds]
    split
    · rename_i e; subst e
      have : w.heap[b] = .cells c T mk := by rw [Array.getElem?_eq_getElem hlt] at h; exact Option.some.inj h
      simp [this]
    · rfl

theorem setBlk_setBlk (w : World) (b : Nat) (o o' : Obj) : setBlk (setBlk w b o) b o' = setBlk w b o' := by
  unfold setBlk
  congr 1
  apply Array.ext
  · simp
  · intro i h1 h2
    simp only [Array.getElem_setIfInBounds]
    by_cases hb : b = i <;> simp [hb, Array.getElem_setIfInBounds]

theorem setBlk_self {b : Nat} {ob : Obj} (h : w.heap[b]? = some ob) : setBlk w b ob = w := by
  have hlt := lt_of_some h
  unfold setBlk
  have : w.heap.setIfInBounds b ob = w.heap := by
    apply Array.ext
    · simp
    · intro i h1 h2
      rw [Array.getElem_setIfInBounds]
      split
      · rename_i e; subst e
        rw [Array.getElem?_eq_getElem hlt] at h; exact (Option.some.inj h).symm
      · rfl
  rw [this]

theorem run_storeCells {b : Nat} {T : TypeId} {mk : Nat × Nat} (hmk : mk.2 ≤ mk.1) (o : Nat) : ∀ (ds : List Value) (i : Nat) (c : Array Value) (w : World), w.heap[b]? = some (.cells c T mk) → o + i + ds.length ≤ c.size → (∀ d ∈ ds, isOne d = true) →
    (storeCells ⟨b, o, none⟩ ds i).run P w = .ok () (setBlk w b (.cells (putD c (o + i) ds) T mk)) := by
  intro ds
  induction ds with
  | nil => intro i c w h _ _; simp only [storeCells, putD]; rw [setBlk_self h]; rfl
  | cons d ds ih =>
    intro i c w h hl h1
    have hi : o + i < c.size := by simp at hl; omega
    have hone : d.oneCell' = true := by have := h1 d (by simp); cases d <;> first | rfl | simp [isOne] at this
    have hfr : w.frozen? ⟨b, o + i, none⟩ = false := by
      obtain ⟨lo, hi'⟩ := mk
      simp only [World.frozen?, h, Bool.and_eq_false_iff, decide_eq_false_iff_not]
      simp only at hmk
      omega
    have hst : (store ((⟨b, o, none⟩ : Addr).add i) d).run P w = .ok () (setBlk w b (.cells (c.setIfInBounds (o + i) d) T mk)) := by
      rw [addr_add, run_store P w _ d _ hone, cell_at h, Array.getElem?_eq_getElem hi]
      simp [hfr, setCell_blk h]
    have := ih (i + 1) (c.setIfInBounds (o + i) d) (setBlk w b (.cells (c.setIfInBounds (o + i) d) T mk)) (setBlk_same (lt_of_some h)) (by simp at hl ⊢; omega) (fun x hx => h1 x (by simp [hx]))
    simp only [storeCells, Sem.run_bind, hst, Result.andThen_ok, this, setBlk_setBlk, putD, Nat.add_assoc]

theorem isOne_of {cs : List AV} {ds : List Value} (hl : cs.length = ds.length) (h : ∀ i (h1 : i < cs.length) (h2 : i < ds.length), cs[i].isCell = true ∧ VRel M ρ cs[i] ds[i]) : ∀ d ∈ ds, isOne d = true := by
  intro d hd
  obtain ⟨i, hi, rfl⟩ := List.getElem_of_mem hd
  have := h i (by omega) hi
  exact this.2.oneCell this.1

/-- A row is written: its relative dies first. -/
theorem Step.put (hR : Rel M ρ H w) {id b sz : Nat} {cs : List AV} {rel : Option Nat} (hid : ρ id = some (b, sz)) (ho : H.obj id = .cells cs rel) (off : Nat) {xs : List AV} {ds : List Value} (hl : xs.length = ds.length)
    (hr : ∀ i (h1 : i < xs.length) (h2 : i < ds.length), xs[i].isCell = true ∧ VRel M ρ xs[i] ds[i]) (hle : off + xs.length ≤ cs.length) :
    ∃ w', (storeCells ⟨b, off, none⟩ ds).run P w = .ok () w' ∧ Step M ρ H w M ρ ((H.kill rel).set id (.cells (Mach.put cs off xs) none)) w' := by
  have hobj := hR.obj id b sz hid
  rw [ho] at hobj
  obtain ⟨hm, c, T, mk, h1, h2, h3, h4, h5⟩ := hobj
  have hrun := run_storeCells (P := P) h2 off ds 0 c w h1 (by omega) (isOne_of hl hr)
  refine ⟨_, hrun, ?_⟩
  have he : (H.kill rel).set id (.cells (Mach.put cs off xs) none) = H.over id (.cells (Mach.put cs off xs) none) := by unfold Heap.over; rw [ho]; rfl
  rw [he]
  refine Step.write hR id _ b sz _ hid (by rw [ho]; trivial) rfl ⟨hm, _, T, mk, setBlk_same (lt_of_some h1), h2, by rw [putD_size]; exact h3, by rw [put_length]; exact h4, ?_⟩
  exact h5.put _ hl hr

theorem hop_store {t : TypeId} {x y : Operand} {a b : AOpd} {ti : TypeInfo} (hR : Rel M ρ H w) (hr : Reads M ρ f e) (hop : o.op = .store t x y) (hi : P.info? t = some ti) (hx : trO x = some a) (hy : trO y = some b) (h : heapA f H (.store ti.size a b) = some (v, H')) : Hop P M ρ H w e o v H' := by
  have hv := hr _ _ hx
  have hw := hr _ _ hy
  simp only [heapA] at h
  split at h
  · rename_i H1 hst
    cases h
    unfold storeA at hst
    generalize f a = fa at hst hv
    split at hst
    · rename_i id off xs hxs
      split at hst
      · rename_i cs rel ho
        split at hst
        · rename_i hcond
          obtain ⟨hl, hle⟩ := hcond
          cases hst
          generalize hd : e x = d at hv
          cases hv with
          | ptr off hid =>
            obtain ⟨g1, g2⟩ := flat_rel hw hxs
            obtain ⟨w', r1, r2⟩ := Step.put (P := P) hR hid ho off (xs := xs) (ds := (e y).cells.toList) (by simp [g1]) (fun i h1 h2 => by
              have := g2 i h1 (by simpa using h2)
              rwa [← Array.getElem_toList] at this) (by omega)
            refine ⟨M, ρ, w', r2, .inr ⟨?_, rfl⟩⟩
            simp only [execOp, hop, hd, Instr.storeAt, Instr.sureAddr, storeVar, Sem.run_bind, Sem.run_pure, Result.andThen_ok, run_size hi, Sem.run_ite]
            rw [if_neg (by simp; omega), r1]; rfl
        · cases hst
      · cases hst
    · cases hst
  · cases h

theorem hop_mkm {t kt el : TypeId} {hint : Option Operand} {ah : Option AOpd} (hR : Rel M ρ H w) (hr : Reads M ρ f e) (hop : o.op = .makeMap t hint) (ht : P.underlying t = some (.map kt el)) (hh : trOO hint = some ah) (h : heapA f H (.mkm ah) = some (v, H')) : Hop P M ρ H w e o v H' := by
  have hs : Step M ρ H w M (upd ρ H.next (some (w.heap.size, 0))) (H.new (.map [])) (push w (.map #[] 0)) :=
    Step.new hR _ _ _ rfl ⟨hR.free, #[], 0, push_new, rfl, fun i h => absurd h (by simp)⟩
  cases hint with
  | none =>
    cases hh
    simp only [heapA] at h
    cases h
    refine ⟨_, _, _, hs, .inl ⟨_, ?_, .mp (upd_same _ _ _)⟩⟩
    simp [execOp, hop, Instr.makeMap, push]
  | some x =>
    simp only [trOO] at hh
    split at hh
    · rename_i a ha
      cases hh
      have hv := hr _ _ ha
      simp only [heapA] at h
      generalize f a = fa at h hv
      split at h
      · cases h
        refine ⟨_, _, _, hs, .inl ⟨_, ?_, .mp (upd_same _ _ _)⟩⟩
        simp [execOp, hop, Instr.makeMap, push, run_und ht, hv.inv_int, asInt, asIntOf]
      · cases h
    · cases hh

theorem map_range0 (f g : Nat → Value) : (Array.range 0).map f = (Array.range 0).map g := by
  apply Array.ext
  · simp
  · intro i h; simp at h

theorem hop_mks {t el : TypeId} {l c : Operand} {a b : AOpd} {ti : TypeInfo} {z : List AV} (hR : Rel M ρ H w) (hr : Reads M ρ f e) (hop : o.op = .makeSlice t l c) (ht : P.underlying t = some (.slice el)) (hi : P.info? el = some ti) (hz : zeroOf P el = some z)
    (hl : trO l = some a) (hc : trO c = some b) (hb : 0 < ti.size ∧ 0 < ti.bytes) (h : heapA f H (.mks ti.size z ti.bytes a b) = some (v, H')) : Hop P M ρ H w e o v H' := by
  have hv := hr _ _ hl
  have hw := hr _ _ hc
  simp only [heapA] at h
  generalize f a = fa at h hv
  generalize f b = fb at h hw
  split at h
  · rename_i k1 l' k2 c'
    split at h
    · rename_i hcond
      obtain ⟨h1, h2, h3, h4⟩ := hcond
      cases h
      obtain ⟨i, zv, g1, g2, g3, g4, g5, _⟩ := zeroOf_rel (M := M) (ρ := ρ) hz
      rw [hi] at g1; cases g1
      have hzs : zv.cells.size = ti.size := by omega
      obtain ⟨q1, q2⟩ := zeros_rel g5 g4 c'.toNat (by omega)
      have hcs : ((Array.range (c'.toNat * zv.cells.size)).map fun i => zv.cells[i % zv.cells.size]!).size = c'.toNat * ti.size := by simp [hzs]
      refine ⟨_, _, _, Step.row hR _ ((Array.range (c'.toNat * zv.cells.size)).map fun i => zv.cells[i % zv.cells.size]!) el (by omega) q1, .inl ⟨.slice (some ⟨w.heap.size, 0, none⟩) l'.toNat c'.toNat, ?_, .sl 0 _ _ _ true _ (upd_same _ _ _) (Nat.le_refl _) (fun _ => rfl) (by omega)⟩⟩
      have w1 : IntKind.i64.wrap l' = l' := wrap_i64 h1 (by omega)
      have w2 : IntKind.i64.wrap c' = c' := wrap_i64 (by omega) (by omega)
      have hbig : decide ((ti.bytes : Int) * c' > 2 ^ 48) = false := by
        rw [decide_eq_false_iff_not, Int.not_lt, Int.mul_comm]
        omega
      have hneg : decide (c' < 0) = false := by rw [decide_eq_false_iff_not]; omega
      have hnl : decide (l' < 0) = false := by rw [decide_eq_false_iff_not]; omega
      have hnlc : decide (l' > c') = false := by rw [decide_eq_false_iff_not]; omega
      simp only [execOp, hop, hv.inv_int, hw.inv_int, Instr.makeSlice, asInt, asIntOf, Sem.run_bind, run_und ht, Result.andThen_ok, Sem.run_pure, run_info hi, w1, w2, Sem.run_ite, run_size hi, run_askRoom]
      rw [if_neg (by simp only [hbig, hneg, hnl, hnlc]; simp)]
      by_cases h0 : c'.toNat * ti.size = 0
      · have h0' : c'.toNat * zv.cells.size = 0 := by rw [hzs]; exact h0
        simp only [run_askRoom, Result.andThen_ok, run_size hi, Sem.run_bind, Sem.run_ite, h0, if_true, Sem.run_pure, run_newRow, h0']
        rw [map_range0 _ fun i => zv.cells[i % zv.cells.size]!]
      · simp only [run_askRoom, Result.andThen_ok, run_size hi, Sem.run_bind, Sem.run_ite, if_neg h0, run_zero hi g2, Sem.run_pure, run_newRow, hzs]
    · cases h
  · cases h

theorem put_rel {u : TypeDesc} {k x : AV} {dk dx : Value} (hk : keyKind u k) (h1 : VRel M ρ k dk) (hx : VRel M ρ x dx) : ∀ {es es' : List (AV × AV)} {ents : List MapEntry} (s : Nat), putA k x es = some es' → ents.length = es.length →
    (∀ i (g1 : i < es.length) (g2 : i < ents.length), VRel M ρ es[i].1 ents[i].key ∧ VRel M ρ es[i].2 ents[i].val) →
    (Instr.findNow u dk ents s = some none ∧ es' = es ++ [(k, x)]) ∨ (∃ i y en, Instr.findNow u dk ents s = some (some (s + i, y)) ∧ ents[i]? = some en ∧ i < es.length ∧ Instr.sameNow u dk en.key = some true ∧ es' = es.set i (k, x)) := by
  intro es
  induction es with
  | nil => intro es' ents s h hl _; cases h; cases ents <;> simp at hl; exact .inl ⟨rfl, rfl⟩
  | cons p es ih =>
    obtain ⟨a, y⟩ := p
    intro es' ents s h hl hc
    cases ents with
    | nil => simp at hl
    | cons en ents =>
      have h0 : VRel M ρ a en.key ∧ VRel M ρ y en.val := hc 0 (by simp) (by simp)
      simp only [putA] at h
      split at h
      · rename_i hb
        cases h
        have hs := sameNow_rel hk h1 h0.1 hb
        exact .inr ⟨0, en.val, en, by simp [Instr.findNow, hs], rfl, by simp, hs, rfl⟩
      · rename_i hb
        split at h
        · rename_i r' hr'
          cases h
          have hs := sameNow_rel hk h1 h0.1 hb
          rcases ih (s + 1) hr' (by simpa using hl) (fun i g1 g2 => hc (i + 1) (by simpa using g1) (by simpa using g2)) with ⟨e1, e2⟩ | ⟨i, z, en', e1, e2, e3, e4, e5⟩
          · exact .inl ⟨by simp [Instr.findNow, hs, e1], by simp [e2]⟩
          · exact .inr ⟨i + 1, z, en', by simp [Instr.findNow, hs, e1]; omega, by simpa using e2, by simp; exact e3, e4, by simp [e5]⟩
        · cases h
      · cases h

theorem sameBits_of {u : TypeDesc} {k : AV} {dk d : Value} (hk : keyKind u k) (h1 : VRel M ρ k dk) (h : Instr.sameNow u dk d = some true) (n : Nat) : Instr.sameBits n d dk = true := by
  rcases hk with ⟨kk, rfl, k', m, rfl⟩ | ⟨rfl, s, rfl⟩
  · rw [h1.inv_int] at h ⊢
    cases d <;> simp [Instr.sameNow] at h
    simp [Instr.sameBits, h.1, h.2]
  · rw [h1.inv_str] at h ⊢
    cases d <;> simp only [Instr.sameNow] at h <;> try (cases h; done)
    rename_i s'
    simp only [Instr.sameBits]
    simp only [Option.some.injEq] at h
    rw [beq_toListBytes] at h ⊢
    rw [beq_iff_eq] at h ⊢
    exact h.symm

theorem hop_mpu {t kt el : TypeId} {x k y : Operand} {a b c : AOpd} {sb : Bool} (hR : Rel M ρ H w) (hr : Reads M ρ f e) (hop : o.op = .mapUpdate t x k y) (hx : trO x = some a) (hk : trO k = some b) (hy : trO y = some c) (ht : P.underlying t = some (.map kt el)) (hkey : trKey P kt = some sb)
    (h : heapA f H (.mpu sb a b c) = some (v, H')) : Hop P M ρ H w e o v H' := by
  have hv := hr _ _ hx
  have hkv := hr _ _ hk
  have hyv := hr _ _ hy
  obtain ⟨u, hu, hu2, hu3⟩ := trKey_und hkey
  simp only [heapA] at h
  generalize f a = fa at h hv
  split at h
  · rename_i id
    split at h
    · rename_i es hes
      split at h
      · rename_i hik
        split at h
        · rename_i es' hput
          cases h
          generalize hd : e x = d at hv
          cases hv with
          | mp hid =>
            rename_i bk sz
            have hobj := hR.obj id bk sz hid
            rw [hes] at hobj
            obtain ⟨hm, ents, clock, g1, g2, g3⟩ := hobj
            have hstep : ∀ ents' clock', ents'.size = es'.length → (∀ i (h1 : i < es'.length) (h2 : i < ents'.size), VRel M ρ es'[i].1 ents'[i].key ∧ VRel M ρ es'[i].2 ents'[i].val) →
                Step M ρ H w M ρ (H.set id (.map es')) (setBlk w bk (.map ents' clock')) := by
              intro ents' clock' q1 q2
              have he : H.set id (.map es') = H.over id (.map es') := by unfold Heap.over; rw [hes]; rfl
              rw [he]
              exact Step.write hR id _ bk sz _ hid (by rw [hes]; trivial) rfl ⟨hm, ents', clock', setBlk_same (lt_of_some g1), q1, q2⟩
            have hset : ∀ en cl, (setObj bk (.map en cl)).run P w = .ok () (setBlk w bk (.map en cl)) := by
              intro en cl
              simp [setObj, Sem.run, g1, setBlk]
            rcases put_rel (hu3 _ hik) hkv hyv 0 hput (by rw [Array.length_toList]; exact g2) (fun i h1 h2 => by simpa using g3 i h1 (by simpa using h2)) with ⟨e1, e2⟩ | ⟨i, y', en, e1, e2, e3, e4, e5⟩
            · subst e2
              refine ⟨M, ρ, _, hstep (ents.push { key := e k, val := e y, born := clock }) (clock + 1) (by simp [g2]) ?_, .inr ⟨?_, rfl⟩⟩
              · intro i h1 h2
                rw [List.getElem_append, Array.getElem_push]
                by_cases hi : i < es.length
                · rw [dif_pos hi, dif_pos (by omega)]; exact g3 i hi (by omega)
                · rw [dif_neg hi, dif_neg (by omega)]
                  simp only [List.getElem_singleton]
                  exact ⟨hkv, hyv⟩
              · simp only [execOp, hop, hd, Instr.mapUpdate, Sem.run_bind, run_und ht, Result.andThen_ok, Sem.run_pure, run_getMap g1, run_checkKey hu hu2 9999, Instr.findKey, run_und hu, e1, hset]
            · subst e5
              simp only [Nat.zero_add] at e1
              have hen : ents[i]? = some en := by rw [← Array.getElem?_toList]; exact e2
              refine ⟨M, ρ, _, hstep (ents.modify i fun en => { en with key := e k, val := e y }) clock (by simp [g2]) ?_, .inr ⟨?_, rfl⟩⟩
              · intro j h1 h2
                simp only [List.length_set] at h1
                simp only [Array.size_modify] at h2
                rw [List.getElem_set, Array.getElem_modify]
                split
                · exact ⟨hkv, hyv⟩
                · exact g3 j h1 h2
              · simp only [execOp, hop, hd, Instr.mapUpdate, Sem.run_bind, run_und ht, Result.andThen_ok, Sem.run_pure, run_getMap g1, run_checkKey hu hu2 9999, Instr.findKey, run_und hu, e1, hen, Option.map_some, Option.getD_some, Instr.keyThatStays, sameBits_of (hu3 _ hik) hkv e4, if_true, hset]
        · cases h
      · cases h
    · cases h
  · cases h
end Go.Mach
