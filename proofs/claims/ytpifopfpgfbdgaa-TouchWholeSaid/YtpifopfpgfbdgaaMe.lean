/-
  The operations that leave the heap alone, one by one. By an AI agent.
-/
import Derived.Test.YtpifopfpgfbdgaaMd
set_option linter.unusedSimpArgs false
set_option linter.unusedVariables false
namespace Go.Mach
variable {P : Program} {M : Mem} {ρ : Rho} {H : Heap} {w : World} {f : AOpd → AV} {e : Operand → Value} {o : Oper} {v : AV}

theorem val_mv {x : Operand} {a : AOpd} (hr : Reads M ρ f e) (hop : o.op = .move x ∨ o.op = .assign x) (hx : trO x = some a) (h : pureA f H (.mv a) = some v) : Val P M ρ w e o v := by
  simp only [pureA] at h; cases h
  rcases hop with hop | hop <;> exact ⟨e x, by simp [execOp, hop], hr _ _ hx⟩

theorem val_pick {c x y : Operand} {c' a b : AOpd} (hr : Reads M ρ f e) (hop : o.op = .pick c x y) (hc : trO c = some c') (hx : trO x = some a) (hy : trO y = some b) (h : pureA f H (.pick c' a b) = some v) : Val P M ρ w e o v := by
  simp only [pureA] at h
  split at h
  · rename_i t ht
    have h1 := hr _ _ hc
    rw [ht] at h1
    have h2 := h1.inv_bool
    cases h
    refine ⟨if t then e x else e y, by simp [execOp, hop, h2, asBool], ?_⟩
    cases t
    · exact hr _ _ hy
    · exact hr _ _ hx
  · cases h

theorem run_fieldsMap {fields : Array Field} {pl : List (Nat × Nat)} (h : placesOf P fields.toList = some pl) (w : World) : (fields.mapM fun (f : Field) => do pure (f.offset, ← sizeOf f.type)).run P w = .ok pl.toArray w := by
  rw [Array.mapM_eq_mapM_toList]
  simp only [Sem.run_map, run_places h, Result.andThen_ok]

theorem parts_toList (parts : Array (Nat × Operand)) : (parts.map fun (p : Nat × Operand) => (p.1, e p.2)).toList = parts.toList.map fun p => (p.1, e p.2) := by simp

theorem val_build_struct {t : TypeId} {parts : Array (Nat × Operand)} {z : List AV} {fields : Array Field} {pl : List (Nat × Nat)} {l : List (Nat × Nat × AOpd)} (hr : Reads M ρ f e) (hop : o.op = .build t parts)
    (hz : zeroOf P t = some z) (ht : P.underlying t = some (.struct fields)) (hpl : placesOf P fields.toList = some pl) (hl : trParts (fun i => pl[i]?) parts.toList = some l)
    (h : pureA f H (.build z l) = some v) : Val P M ρ w e o v := by
  simp only [pureA] at h
  split at h
  · rename_i cs hcs
    cases h
    obtain ⟨i, zv, h1, h2, h3, h4, h5, _⟩ := zeroOf_rel (M := M) (ρ := ρ) hz
    obtain ⟨c', e1, e2, e3, e4⟩ := fill_rel hr _ hl h5 (by omega) hcs
    refine ⟨.agg c', ?_, .agg (by omega) (fun j hj => (e2 j hj (by omega)).1) fun j hj hj2 => (e2 j hj hj2).2⟩
    have e1' : Instr.fill (fun i => pl.toArray[i]?) zv.cells (parts.map fun (p : Nat × Operand) => (p.1, e p.2)).toList = some c' := by
      rw [parts_toList]; simpa using e1
    simp only [execOp, hop, Instr.build, Sem.run_bind, run_zero h1 h2, Result.andThen_ok, run_und ht, run_fieldsMap hpl, e1', Sem.run_pure]
  · cases h

theorem val_build_array {t el : TypeId} {n : Nat} {ti : TypeInfo} {parts : Array (Nat × Operand)} {z : List AV} {l : List (Nat × Nat × AOpd)} (hr : Reads M ρ f e) (hop : o.op = .build t parts)
    (hz : zeroOf P t = some z) (ht : P.underlying t = some (.array n el)) (hi : P.info? el = some ti) (hl : trParts (fun j => some (j * ti.size, ti.size)) parts.toList = some l)
    (h : pureA f H (.build z l) = some v) : Val P M ρ w e o v := by
  simp only [pureA] at h
  split at h
  · rename_i cs hcs
    cases h
    obtain ⟨i, zv, h1, h2, h3, h4, h5, _⟩ := zeroOf_rel (M := M) (ρ := ρ) hz
    obtain ⟨c', e1, e2, e3, e4⟩ := fill_rel hr _ hl h5 (by omega) hcs
    refine ⟨.agg c', ?_, .agg (by omega) (fun j hj => (e2 j hj (by omega)).1) fun j hj hj2 => (e2 j hj hj2).2⟩
    have e1' : Instr.fill (fun j => some (j * ti.size, ti.size)) zv.cells (parts.map fun (p : Nat × Operand) => (p.1, e p.2)).toList = some c' := by
      rw [parts_toList]; exact e1
    simp only [execOp, hop, Instr.build, Sem.run_bind, run_zero h1 h2, Result.andThen_ok, run_und ht, run_size hi, e1', Sem.run_pure]
  · cases h

theorem val_load {t : TypeId} {x : Operand} {a : AOpd} {g : Bool} {ti : TypeInfo} (hR : Rel M ρ H w) (hr : Reads M ρ f e) (hop : o.op = .load t x) (hg : aggOf P t = some g) (hi : P.info? t = some ti) (hx : trO x = some a)
    (h : pureA f H (.load g ti.size a) = some v) : Val P M ρ w e o v := by
  obtain ⟨r', h1, h2⟩ := loadA_rel hR hg hi (hr _ _ hx) h
  exact ⟨r', by simp [execOp, hop, h1], h2⟩

theorem val_nchk {x : Operand} {a : AOpd} (hr : Reads M ρ f e) (hop : o.op = .nilCheck x) (hx : trO x = some a) (h : pureA f H (.nchk a) = some v) : Val P M ρ w e o v := by
  have h1 := hr _ _ hx
  have key : ∀ d, e x = d → (∀ q, d = .pointer q → q ≠ none) → d ≠ .nilIface → d ≠ .nilFunc → (∀ n a b, d ≠ .func (.method n) a b) → (execOp e o).run P w = .ok (.value d) w := by
    intro d hd k1 k2 k3 k4
    unfold execOp
    rw [hop]
    simp only [hd]
    split <;> first | rfl | (exfalso; simp_all)
  simp only [pureA] at h
  split at h
  · rename_i id off hf
    cases h
    rw [hf] at h1
    generalize hd : e x = d at h1
    refine ⟨d, key d hd ?_ ?_ ?_ ?_, h1⟩ <;> (cases h1; simp)
  · rename_i cs off hf
    cases h
    rw [hf] at h1
    generalize hd : e x = d at h1
    refine ⟨d, key d hd ?_ ?_ ?_ ?_, h1⟩ <;> (cases h1; simp)
  · rename_i g fs cs hf
    cases h
    rw [hf] at h1
    generalize hd : e x = d at h1
    refine ⟨d, key d hd ?_ ?_ ?_ ?_, h1⟩ <;> (cases h1; simp)
  · cases h

theorem val_bin {op : BinOp} {t u : TypeId} {x y : Operand} {a b : AOpd} (hr : Reads M ρ f e) (hop : o.op = .binOp op t x y u) (hx : trO x = some a) (hy : trO y = some b) (h : pureA f H (.bin op a b) = some v) : Val P M ρ w e o v := by
  have h1 := hr _ _ hx
  have h2 := hr _ _ hy
  simp only [pureA] at h
  cases ha : f a <;> rw [ha] at h h1 <;> try (simp [binA] at h; done)
  · rename_i k m
    cases hb : f b <;> rw [hb] at h h2 <;> try (simp [binA] at h; done)
    rename_i k' m'
    obtain ⟨r', h3, h4⟩ := bin_rel (P := P) (M := M) (ρ := ρ) (w := w) h t
    exact ⟨r', run_bin hop (by rw [h1.inv_int, h2.inv_int]; exact guard_int) (by rw [h1.inv_int, h2.inv_int]; exact h3), h4⟩
  · rename_i s
    cases hb : f b <;> rw [hb] at h h2 <;> try (simp [binA] at h; done)
    obtain ⟨r', h3, h4⟩ := str_rel (P := P) (M := M) (ρ := ρ) (w := w) h t
    exact ⟨r', run_bin hop (by rw [h1.inv_str, h2.inv_str]; exact guard_str) (by rw [h1.inv_str, h2.inv_str]; exact h3), h4⟩

theorem isCmp_cases {op : BinOp} {neg : Bool} (h : isCmp op = some neg) : (op = .eql ∧ neg = false) ∨ (op = .neq ∧ neg = true) := by
  cases op <;> simp [isCmp] at h <;> simp [h]

theorem val_eqb {op : BinOp} {t u : TypeId} {x y : Operand} {a b : AOpd} {neg : Bool} (hr : Reads M ρ f e) (hop : o.op = .binOp op t x y u) (hc : isCmp op = some neg) (ht : P.underlying t = some .bool) (hx : trO x = some a) (hy : trO y = some b)
    (h : pureA f H (.eqb neg a b) = some v) : Val P M ρ w e o v := by
  have h1 := hr _ _ hx
  have h2 := hr _ _ hy
  simp only [pureA] at h
  split at h
  · rename_i p q hp hq
    cases h
    rw [hp] at h1; rw [hq] at h2
    have e1 := h1.inv_bool
    have e2 := h2.inv_bool
    refine ⟨_, ?_, VRel.bool _⟩
    refine run_bin hop (by rw [e1, e2]; exact guard_bool) ?_
    rw [e1, e2]
    rcases isCmp_cases hc with ⟨rfl, rfl⟩ | ⟨rfl, rfl⟩
    · simp [binOp, run_equal_bool w t p q ht]
    · simp [binOp, run_equal_bool w t p q ht]
  · cases h

theorem val_eqa {op : BinOp} {t u el : TypeId} {n : Nat} {k : IntKind} {ti : TypeInfo} {x y : Operand} {a b : AOpd} {neg : Bool} (hr : Reads M ρ f e) (hop : o.op = .binOp op t x y u) (hc : isCmp op = some neg)
    (ht : P.underlying t = some (.array n el)) (hu : P.underlying el = some (.int k)) (hi : P.info? el = some ti) (hs : ti.size = 1) (hg : P.eqGuardType P.depth t = false) (hx : trO x = some a) (hy : trO y = some b)
    (h : pureA f H (.eqa neg n a b) = some v) : Val P M ρ w e o v := by
  have h1 := hr _ _ hx
  have h2 := hr _ _ hy
  simp only [pureA] at h
  split at h
  · rename_i xs ys hp hq
    split at h
    · rename_i hn
      split at h
      · rename_i r hrow
        cases h
        rw [hp] at h1; rw [hq] at h2
        have hlen := eqRow_len xs ys hrow
        cases hdx : e x <;> rw [hdx] at h1 <;> try (cases h1; done)
        cases hdy : e y <;> rw [hdy] at h2 <;> try (cases h2; done)
        rename_i dx dy
        have hrun : ∀ w, (Op.equal t (.agg dx) (.agg dy)).run P w = .ok r w := fun w => run_equal_row 9998 9999 rfl ht hu hi hs hrow hn h1 h2 hlen
        refine ⟨_, ?_, VRel.bool _⟩
        refine run_bin hop (by rw [hdx, hdy]; exact guard_agg hg) ?_
        rw [hdx, hdy]
        rcases isCmp_cases hc with ⟨rfl, rfl⟩ | ⟨rfl, rfl⟩
        · simp [binOp, hrun]
        · simp [binOp, hrun]
      · cases h
    · cases h
  · cases h

theorem val_eqn {op : BinOp} {t u : TypeId} {x y : Operand} {a b : AOpd} {neg : Bool} {k : Nat} (hr : Reads M ρ f e) (hop : o.op = .binOp op t x y u) (hc : isCmp op = some neg) (ht : kindOk P t k) (hx : trO x = some a) (hy : trO y = some b)
    (h : pureA f H (.eqn k neg a b) = some v) : Val P M ρ w e o v := by
  have h1 := hr _ _ hx
  have h2 := hr _ _ hy
  simp only [pureA] at h
  split at h
  · rename_i p q hp hq
    split at h
    · rename_i hor
      cases h
      have g1 := eqNil_rel h1 hp
      have g2 := eqNil_rel h2 hq
      have hrun : (Op.equal t (e x) (e y)).run P w = .ok (p && q) w := run_equal_nil 9999 ht g1 g2 hor
      refine ⟨_, ?_, VRel.bool _⟩
      refine run_bin hop (guard_nil g1 g2) ?_
      rcases isCmp_cases hc with ⟨rfl, rfl⟩ | ⟨rfl, rfl⟩
      · rw [(binOp_nil (op := .eql) g1 g2).1]; simp [hrun]
      · rw [(binOp_nil (op := .eql) g1 g2).2]; simp [hrun]
    · cases h
  · cases h

theorem val_un {op : UnOp} {t : TypeId} {x : Operand} {a : AOpd} (hr : Reads M ρ f e) (hop : o.op = .unOp op t x) (hx : trO x = some a) (h : pureA f H (.un op a) = some v) : Val P M ρ w e o v := by
  have h1 := hr _ _ hx
  simp only [pureA, unA] at h
  split at h
  · rename_i b hb
    cases h
    rw [hb] at h1
    exact ⟨_, by simp [execOp, hop, Op.unary, h1.inv_bool], VRel.bool _⟩
  · rename_i k n hb
    rw [hb] at h1
    simp only [ibin] at h
    cases h
    exact ⟨_, by simp [execOp, hop, Op.unary, h1.inv_int, Op.intArith], VRel.int _ _⟩
  · rename_i k n hb
    rw [hb] at h1
    simp only [ibin] at h
    cases h
    exact ⟨_, by simp [execOp, hop, Op.unary, h1.inv_int, Op.intBits], VRel.int _ _⟩
  · cases h

theorem val_cvi {s d : TypeId} {x : Operand} {a : AOpd} {k : IntKind} {u : TypeDesc} (hr : Reads M ρ f e) (hop : o.op = .convert s d x) (hs : P.underlying s = some u) (hd : P.underlying d = some (.int k)) (hx : trO x = some a) (h : pureA f H (.cvi k a) = some v) : Val P M ρ w e o v := by
  have h1 := hr _ _ hx
  simp only [pureA] at h
  split at h
  · rename_i k' n hb
    cases h
    rw [hb] at h1
    refine ⟨_, ?_, VRel.int _ _⟩
    simp [execOp, hop, h1.inv_int, convert, run_und hs, run_und hd, Conv.intToInt]
  · cases h

theorem src_rel (hR : Rel M ρ H w) {k n : Nat} {a : AV} {d : Value} {cs : List AV} (h : VRel M ρ a d) (hs : srcA H k a = some (n, cs)) :
    cs.length = n * k ∧ ∃ ad cap, d = .slice ad n cap ∧ (cs = [] ∨ ∃ b off, ad = some ⟨b, off, none⟩ ∧ ∃ (c : Array Value) (T : TypeId) (mk : Nat × Nat), w.heap[b]? = some (.cells c T mk) ∧ off + n * k ≤ c.size ∧ ∀ i (h1 : i < cs.length) (h2 : off + i < c.size), cs[i].isCell = true ∧ VRel M ρ cs[i] c[off + i]) ∧ (ad = none → n = 0) := by
  unfold srcA at hs
  split at hs
  · cases hs; cases h; exact ⟨by simp, none, 0, rfl, .inl rfl, fun _ => rfl⟩
  · rename_i n' ex cs'
    split at hs
    · rename_i hl
      cases hs
      cases h with
      | vec0 len cap ex a hex hl' => exact ⟨hl, some a, cap, rfl, .inl rfl, fun h => by cases h⟩
      | vec len cap ex off hm hsz hp hc hex hl' =>
        refine ⟨hl, _, cap, rfl, .inr ⟨_, off, rfl, _, _, _, hR.mem _ _ hm, by omega, fun i h1 h2 => ⟨hp i h1, (hc i h1 h2).mono (fun _ _ h => h) (fun i p h => by cases h)⟩⟩, fun h => by cases h⟩
    · cases hs
  · rename_i id off n' lo ex e'
    split at hs
    · rename_i cs' hread
      split at hs
      · rename_i hle
        cases hs
        cases h with
        | sl off len lo cap ex e' hid hlo hex hsz =>
          obtain ⟨c, T, mk, h1, h2, h3, h4⟩ := read_rel hR hid hread
          refine ⟨by simp; omega, _, cap, rfl, .inr ⟨_, off, rfl, c, T, mk, h1, by omega, fun i h5 h6 => ?_⟩, fun h => by cases h⟩
          simp only [List.length_take, List.length_drop] at h5
          simp only [List.getElem_take, List.getElem_drop]
          exact h4 (off + i) (by omega) h6
      · cases hs
    · cases hs
  · cases hs

theorem bytes_rel {n : Nat} : ∀ {cs : List AV} {ds : List Value} {l : List UInt8}, bytesOf cs = some l → cs.length = ds.length → (∀ i (h1 : i < cs.length) (h2 : i < ds.length), VRel M ρ cs[i] ds[i]) → ∃ ns : List Int, ds = ns.map (Value.int .u8) ∧ l = ns.map fun n => UInt8.ofNat n.toNat := by
  intro cs
  induction cs with
  | nil => intro ds l h hl _; cases h; cases ds <;> simp at hl; exact ⟨[], rfl, rfl⟩
  | cons a cs ih =>
    intro ds l h hl hr
    cases ds with
    | nil => simp at hl
    | cons d ds =>
      cases a <;> try (simp [bytesOf] at h; done)
      rename_i k m
      cases k <;> try (simp [bytesOf] at h; done)
      simp only [bytesOf] at h
      split at h
      · rename_i l' hl'
        cases h
        obtain ⟨ns, h1, h2⟩ := ih hl' (by simpa using hl) (fun i h1 h2 => hr (i + 1) (by simpa using h1) (by simpa using h2))
        have h0 := (hr 0 (by simp) (by simp)).inv_int
        simp at h0
        exact ⟨m :: ns, by simp [h0, h1], by simp [h2]⟩
      · cases h

theorem val_cvbs {s d el : TypeId} {x : Operand} {a : AOpd} (hR : Rel M ρ H w) (hr : Reads M ρ f e) (hop : o.op = .convert s d x) (hs : P.underlying s = some (.slice el)) (hd : P.underlying d = some .string) (he : P.underlying el = some (.int .u8)) (hx : trO x = some a)
    (h : pureA f H (.cvbs a) = some v) : Val P M ρ w e o v := by
  have h1 := hr _ _ hx
  simp only [pureA] at h
  split at h
  · rename_i n cs hsrc
    split at h
    · rename_i l hl
      cases h
      obtain ⟨h2, ad, cap, hd', h3, h4⟩ := src_rel hR h1 hsrc
      refine ⟨_, ?_, VRel.str _⟩
      have hrun : ∀ s', (Conv.bytesToString (.slice ad n cap)).run P w = .ok s' w → (execOp e o).run P w = .ok (.value s') w := by
        intro s' hs'
        simp [execOp, hop, hd', convert, run_und hs, run_und hd, run_und he, hs']
      apply hrun
      rcases h3 with rfl | ⟨b, off, rfl, c, T, mk, h5, h6, h7⟩
      · cases hl
        cases ad with
        | none => simp [Conv.bytesToString]; rfl
        | some ad =>
          have : n = 0 := by simp at h2; omega
          subst this
          simp [Conv.bytesToString, loadCells, loadCellsFrom]
          rfl
      · have hload : (loadCells ⟨b, off, none⟩ n).run P w = .ok (c.extract off (off + n)) w := run_cells h5 _ _ (by omega)
        obtain ⟨ns, h8, h9⟩ := bytes_rel (n := 0) (M := M) (ρ := ρ) (ds := (c.extract off (off + n)).toList) hl (by simp; omega) (fun i g1 g2 => by
          have := (h7 i g1 (by simp at g2; omega)).2
          simpa using this)
        simp only [Conv.bytesToString, Sem.run_bind, hload, Result.andThen_ok]
        rw [← Array.forIn_toList, h8, run_forIn_bytes _ (by intro n r; simp [Sem.run_pure])]
        simp only [Result.andThen_ok, Sem.run_pure]
        congr 2
        rw [h9]
        clear h8 h9 hl h7 hrun h2 hsrc h1
        have : ∀ (ns : List Int) (acc : ByteArray), ns.foldl (fun r n => r.push (UInt8.ofNat n.toNat)) acc = ⟨acc.data ++ (ns.map fun n => UInt8.ofNat n.toNat).toArray⟩ := by
          intro ns
          induction ns with
          | nil => intro acc; simp
          | cons m ns ih => intro acc; simp only [List.foldl_cons, ih]; congr 1; simp [ByteArray.push]
        rw [this]
        simp [ByteArray.empty, ByteArray.emptyWithCapacity]
        rfl
    · cases h
  · cases h

theorem val_mkf {g : Nat} {fs cs : Array Operand} {a b : List AOpd} (hr : Reads M ρ f e) (hop : o.op = .makeFunc (.func g) fs cs) (ha : trOs fs.toList = some a) (hb : trOs cs.toList = some b) (h : pureA f H (.mkf g a b) = some v) : Val P M ρ w e o v := by
  simp only [pureA] at h
  cases h
  have l1 := trOs_len ha
  have l2 := trOs_len hb
  refine ⟨.func (.func g) (fs.map e) (cs.map e), by simp [execOp, hop, Instr.makeFunc], .fn g (by simp [l1]) (by simp [l2]) (fun i h1 h2 => ?_) fun i h1 h2 => ?_⟩
  · have := trOs_rel hr ha i (by simpa using h1) (by simpa using h2)
    simpa using this
  · have := trOs_rel hr hb i (by simpa using h1) (by simpa using h2)
    simpa using this

/-! ### Slicing -/
theorem bnd_rel {vo : Option AV} {dO : Option Value} {d top n : Nat} {code : BoundsCode} (h : bnd vo d top = some n) (hv : ∀ a, vo = some a → ∃ x, dO = some x ∧ VRel M ρ a x) (hn : vo = none → dO = none) :
    (vo = none ∧ dO = none ∧ n = d) ∨ (∃ x, dO = some x ∧ n ≤ top ∧ vo.isSome ∧ ∀ w, (Instr.sliceBound x top code).run P w = .ok n w) := by
  unfold bnd at h
  split at h
  · cases h; exact .inl ⟨rfl, hn rfl, rfl⟩
  · rename_i k i
    split at h
    · rename_i hi
      cases h
      obtain ⟨x, h1, h2⟩ := hv _ rfl
      rw [h2.inv_int] at h1
      exact .inr ⟨_, h1, by omega, rfl, fun w => by simp [Instr.sliceBound, asIntOf, hi]⟩
    · cases h
  · cases h

theorem bnd_le {vo : Option AV} {d top n : Nat} (h : bnd vo d top = some n) (hd : d ≤ top) : n ≤ top := by
  unfold bnd at h
  split at h
  · cases h; exact hd
  · split at h
    · cases h; omega
    · cases h
  · cases h

theorem trOO_rel (hr : Reads M ρ f e) {x : Option Operand} {a : Option AOpd} (h : trOO x = some a) : (∀ v, a.map f = some v → ∃ d, x.map e = some d ∧ VRel M ρ v d) ∧ (a.map f = none → x.map e = none) := by
  cases x with
  | none => cases h; exact ⟨by simp, by simp⟩
  | some x =>
    simp only [trOO] at h
    split at h
    · rename_i a' ha
      cases h
      exact ⟨fun v hv => by simp at hv; subst hv; exact ⟨_, rfl, hr _ _ ha⟩, by simp⟩
    · cases h

def lowS (lo : Option Value) (h : Nat) (code : BoundsCode) : Sem Nat :=
  match lo with
  | some v => Instr.sliceBound v h code
  | none => pure 0

theorem bnd_num {vo : Option AV} {dO : Option Value} {d top n : Nat} (h : bnd vo d top = some n) (hne : vo ≠ none) (hv : ∀ a, vo = some a → ∃ x, dO = some x ∧ VRel M ρ a x) :
    ∃ x, dO = some x ∧ n ≤ top ∧ ∀ t' code w, top ≤ t' → (Instr.sliceBound x t' code).run P w = .ok n w := by
  unfold bnd at h
  split at h
  · exact absurd rfl hne
  · rename_i k i
    split at h
    · rename_i hi
      cases h
      obtain ⟨x, e1, e2⟩ := hv _ rfl
      refine ⟨x, e1, by omega, fun t' code w ht => ?_⟩
      rw [e2.inv_int]
      simp only [Instr.sliceBound, asIntOf, Sem.run_bind, Sem.run_pure, Result.andThen_ok]
      rw [if_pos ⟨hi.1, by omega⟩]; rfl
    · cases h
  · cases h

theorem low_rel {lo : Option AV} {lo' : Option Value} {hh l : Nat} (h1 : ∀ a, lo = some a → ∃ x, lo' = some x ∧ VRel M ρ a x) (h1' : lo = none → lo' = none) (g3 : bnd lo 0 hh = some l) (code : BoundsCode) (w : World) : (lowS lo' hh code).run P w = .ok l w := by
  by_cases hl : lo = none
  · rw [h1' hl]
    rw [hl] at g3
    simp [bnd] at g3
    subst g3; rfl
  · obtain ⟨x, e1, e2, e3⟩ := bnd_num (P := P) g3 hl h1
    rw [e1]
    exact e3 _ _ _ (Nat.le_refl _)

/-- The three bounds: low, high, max; L: what is known of the capacity. -/
theorem bounds_rel {isS : Bool} {len cap L hh l m : Nat} {lo hi mx : Option AV} {lo' hi' mx' : Option Value}
    (h1 : ∀ a, lo = some a → ∃ x, lo' = some x ∧ VRel M ρ a x) (h1' : lo = none → lo' = none) (h2 : ∀ a, hi = some a → ∃ x, hi' = some x ∧ VRel M ρ a x) (h2' : hi = none → hi' = none)
    (h3 : ∀ a, mx = some a → ∃ x, mx' = some x ∧ VRel M ρ a x) (h3' : mx = none → mx' = none)
    (hL : L ≤ cap) (g1 : (mx = none ∧ m = cap ∧ ((hi = none ∧ hh = len) ∨ (hi ≠ none ∧ bnd hi len L = some hh))) ∨ (mx ≠ none ∧ hi ≠ none ∧ bnd mx 0 L = some m ∧ bnd hi 0 m = some hh)) (g3 : bnd lo 0 hh = some l) :
    ∀ w, (Instr.sliceBounds isS len cap lo' hi' mx').run P w = .ok (l, hh, m) w := by
  intro w
  rcases g1 with ⟨hm, rfl, g⟩ | ⟨hm, hhi, gm, gh⟩
  · have hmx := h3' hm
    subst hmx
    rcases g with ⟨hhi, rfl⟩ | ⟨hhi, gh⟩
    · rw [h2' hhi]
      refine Eq.trans (b := ((lowS lo' hh .sliceB).run P w).andThen fun l w => .ok (l, hh, m) w) ?_ ?_
      · simp only [Instr.sliceBounds, Sem.run_bind, Sem.run_pure, Result.andThen_ok]; clear h1 h1'; cases lo' <;> simp [lowS]
      · rw [low_rel h1 h1' g3]; rfl
    · obtain ⟨x, e1, e2, e3⟩ := bnd_num (P := P) gh hhi h2
      rw [e1]
      refine Eq.trans (b := ((lowS lo' hh .sliceB).run P w).andThen fun l w => .ok (l, hh, m) w) ?_ ?_
      · simp only [Instr.sliceBounds, Sem.run_bind, Sem.run_pure, Result.andThen_ok, e3 m _ _ hL]; clear h1 h1'; cases lo' <;> simp [lowS]
      · rw [low_rel h1 h1' g3]; rfl
  · obtain ⟨x, e1, e2, e3⟩ := bnd_num (P := P) gm hm h3
    obtain ⟨y, e4, e5, e6⟩ := bnd_num (P := P) gh hhi h2
    rw [e1, e4]
    refine Eq.trans (b := ((lowS lo' hh .slice3C).run P w).andThen fun l w => .ok (l, hh, m) w) ?_ ?_
    · simp only [Instr.sliceBounds, Sem.run_bind, Sem.run_pure, Result.andThen_ok, e3 cap _ _ hL, e6 m _ _ (Nat.le_refl _)]; clear h1 h1'; cases lo' <;> simp [lowS]
    · rw [low_rel h1 h1' g3]; rfl

theorem bnds_rel {isS : Bool} {len cap L h l : Nat} {mo : Option Nat} {lo hi mx : Option AV} {lo' hi' mx' : Option Value}
    (h1 : ∀ a, lo = some a → ∃ x, lo' = some x ∧ VRel M ρ a x) (h1' : lo = none → lo' = none) (h2 : ∀ a, hi = some a → ∃ x, hi' = some x ∧ VRel M ρ a x) (h2' : hi = none → hi' = none)
    (h3 : ∀ a, mx = some a → ∃ x, mx' = some x ∧ VRel M ρ a x) (h3' : mx = none → mx' = none) (hL : L ≤ cap) (hb : bnds len L lo hi mx = some (l, h, mo)) :
    (∀ w, (Instr.sliceBounds isS len cap lo' hi' mx').run P w = .ok (l, h, mo.getD cap) w) ∧ l ≤ h ∧ (∀ m, mo = some m → h ≤ m ∧ m ≤ L) ∧ (h = len ∨ h ≤ L ∨ mo.isSome) := by
  have bl : ∀ {vo : Option AV} {d top n : Nat}, bnd vo d top = some n → d ≤ top → n ≤ top := fun h hd => bnd_le h hd
  have bs : ∀ {vo : Option AV} {d top n : Nat}, bnd vo d top = some n → vo ≠ none → n ≤ top := by
    intro vo d top n h hne
    unfold bnd at h
    split at h
    · exact absurd rfl hne
    · split at h
      · cases h; omega
      · cases h
    · cases h
  unfold bnds at hb
  split at hb
  · split at hb
    · cases hb
    · rename_i hh hhe
      split at hb
      · cases hb
      · rename_i ll hlo
        cases hb
        refine ⟨bounds_rel h1 h1' h2 h2' h3 h3' hL (.inl ⟨rfl, rfl, ?_⟩) hlo, bl hlo (Nat.zero_le _), (fun m hm => by cases hm), ?_⟩
        · split at hhe
          · cases hhe; exact .inl ⟨rfl, rfl⟩
          · exact .inr ⟨by simp, hhe⟩
        · split at hhe
          · cases hhe; exact .inl rfl
          · exact .inr (.inl (bs hhe (by simp)))
  · split at hb
    · cases hb
    · split at hb
      · cases hb
      · rename_i m hm
        split at hb
        · cases hb
        · rename_i hh hhe
          split at hb
          · cases hb
          · rename_i ll hlo
            cases hb
            exact ⟨bounds_rel h1 h1' h2 h2' h3 h3' hL (.inr ⟨by simp, by simp, hm, hhe⟩) hlo, bl hlo (Nat.zero_le _), (fun m' hm' => by cases hm'; exact ⟨bl hhe (Nat.zero_le _), bl hm (Nat.zero_le _)⟩), .inr (.inr rfl)⟩

theorem slc_addr (b o l m e : Nat) : (if m = l then (⟨b, o, none⟩ : Addr) else (⟨b, o, none⟩ : Addr).add (l * e)) = if m = l then ⟨b, o, none⟩ else ⟨b, o + l * e, none⟩ := by
  rw [addr_add]

theorem val_slc {t el : TypeId} {ti : TypeInfo} {x : Operand} {lo hi mx : Option Operand} {a : AOpd} {lo' hi' mx' : Option AOpd} {k : SK} (hR : Rel M ρ H w) (hr : Reads M ρ f e) (hop : o.op = .slice t x lo hi mx) (hx : trO x = some a)
    (hlo : trOO lo = some lo') (hhi : trOO hi = some hi') (hmx : trOO mx = some mx') (hk : (∃ n, k = .arr n ∧ P.underlying t = some (.array n el)) ∨ (k = .sli ∧ P.underlying t = some (.slice el))) (hi0 : P.info? el = some ti)
    (h : pureA f H (.slc k ti.size a lo' hi' mx') = some v) : Val P M ρ w e o v := by
  have hv := hr _ _ hx
  have hlo2 := trOO_rel hr hlo
  have hhi2 := trOO_rel hr hhi
  have hmx2 := trOO_rel hr hmx
  simp only [pureA] at h
  generalize f a = fa at h hv
  unfold slcA at h
  split at h
  · -- an array
    rename_i n id off
    split at h
    · rename_i cs l hh mo hread hb
      split at h
      · rename_i hle
        rcases hk with ⟨n', hk, ht⟩ | ⟨hk, _⟩ <;> cases hk
        cases hd : e x <;> rw [hd] at hv <;> try (cases hv; done)
        rename_i p
        cases p with
        | none => cases hv
        | some p =>
          obtain ⟨b, o', sp⟩ := p
          obtain ⟨rfl, rfl, sz, hρ⟩ : sp = none ∧ o' = off ∧ ∃ sz, ρ id = some (b, sz) := by cases hv; exact ⟨rfl, rfl, _, by assumption⟩
          obtain ⟨c, T, mk, hb1, hb2, hb3, hb4⟩ := read_rel hR hρ hread
          obtain ⟨g1, g2, g3, g4⟩ := bnds_rel (P := P) (isS := false) (cap := n) hlo2.1 hlo2.2 hhi2.1 hhi2.2 hmx2.1 hmx2.2 (Nat.le_refl _) hb
          have hm : hh ≤ mo.getD n ∧ mo.getD n ≤ n := by
            cases mo with
            | none => rcases g4 with h | h | h <;> simp at * <;> omega
            | some m => exact g3 m rfl
          have hrun : (execOp e o).run P w = .ok (.value (.slice (some (if mo.getD n = l then ⟨b, o', none⟩ else ⟨b, o' + l * ti.size, none⟩)) (hh - l) (mo.getD n - l))) w := by
            simp only [execOp, hop, hd, Instr.sliceAt, Instr.sureAddr, Sem.run_bind, run_und ht, Sem.run_pure, Result.andThen_ok, g1, run_size hi0, slc_addr]
          split at h
          · rename_i hml
            cases h
            refine ⟨_, hrun, ?_⟩
            have : hh - l = 0 := by omega
            rw [this]
            exact VRel.vec0 0 _ true _ (by omega) (Nat.zero_le _)
          · rename_i hml
            cases h
            refine ⟨_, hrun, ?_⟩
            have e1 : (if mo.getD n = l then (⟨b, o', none⟩ : Addr) else ⟨b, o' + l * ti.size, none⟩) = ⟨b, o' + l * ti.size, none⟩ := by
              split
              · rename_i hml2
                have : l = 0 := by
                  by_cases hl0 : l = 0
                  · exact hl0
                  · exact absurd ⟨hml2, hl0⟩ hml
                simp [this]
              · rfl
            rw [e1]
            refine .sl _ _ _ _ true _ hρ (Nat.le_refl _) (fun _ => rfl) ?_
            have : l * ti.size + (mo.getD n - l) * ti.size ≤ n * ti.size := by
              rw [← Nat.add_mul]; exact Nat.mul_le_mul_right _ (by omega)
            omega
      · cases h
    · cases h
  · -- nil
    split at h
    · rename_i bb hb
      cases h
      rcases hk with ⟨n', hk, ht⟩ | ⟨_, ht⟩
      · cases hk
      obtain ⟨l, hh, mo⟩ := bb
      cases hd : e x <;> rw [hd] at hv <;> try (cases hv; done)
      cases hv
      obtain ⟨g1, g2, g3, g4⟩ := bnds_rel (P := P) (isS := true) (cap := 0) hlo2.1 hlo2.2 hhi2.1 hhi2.2 hmx2.1 hmx2.2 (Nat.le_refl _) hb
      have hm : hh = 0 ∧ mo.getD 0 = 0 := by
        cases mo with
        | none => rcases g4 with h | h | h <;> simp at * <;> omega
        | some m => have := g3 m rfl; simp; omega
      refine ⟨.slice none 0 0, ?_, .nils⟩
      simp only [execOp, hop, hd, Instr.sliceAt, Instr.slice, Sem.run_bind, run_und ht, Sem.run_pure, Result.andThen_ok, g1, run_size hi0, hm.1, hm.2]
      have : l = 0 := by omega
      subst this; rfl
    · cases h
  · -- frozen
    rename_i len ex cs
    rcases hk with ⟨n', hk, ht⟩ | ⟨_, ht⟩
    · cases hk
    have main : ∀ (l hh : Nat) (mo : Option Nat) (ex' : Bool), bnds len len (lo'.map f) (hi'.map f) (mx'.map f) = some (l, hh, mo) → cs.length = len * ti.size → (ex' = true → ∀ cap, (ex = true → cap = len) → mo.getD cap = hh) →
        Val P M ρ w e o (.vec (hh - l) ex' ((cs.drop (l * ti.size)).take ((hh - l) * ti.size))) := by
      intro l hh mo ex' hb hcl hex'
      cases hd : e x <;> rw [hd] at hv <;> try (cases hv; done)
      rename_i ad n' cap
      obtain ⟨rfl, hcap, hlc⟩ : n' = len ∧ (ex = true → cap = len) ∧ len ≤ cap := by cases hv <;> exact ⟨rfl, by assumption, by assumption⟩
      obtain ⟨g1, g2, g3, g4⟩ := bnds_rel (P := P) (isS := true) (cap := cap) hlo2.1 hlo2.2 hhi2.1 hhi2.2 hmx2.1 hmx2.2 hlc hb
      have hm : hh ≤ mo.getD cap := by
        cases mo with
        | none => rcases g4 with h | h | h <;> simp at * <;> omega
        | some m => exact (g3 m rfl).1
      have hhl : hh ≤ n' := by
        cases mo with
        | none => rcases g4 with h | h | h <;> simp at * <;> omega
        | some m => have := g3 m rfl; omega
      have hex2 : ex' = true → mo.getD cap - l = hh - l := fun h => by rw [hex' h cap hcap]
      refine ⟨.slice (if mo.getD cap = l then ad else ad.map (·.add (l * ti.size))) (hh - l) (mo.getD cap - l), ?_, ?_⟩
      · simp only [execOp, hop, hd, Instr.sliceAt, Instr.slice, Sem.run_bind, run_und ht, Sem.run_pure, Result.andThen_ok, g1, run_size hi0]
      · cases hv with
        | vec0 len cap ex a hex hl =>
          simp only [List.drop_nil, List.take_nil]
          have : (if mo.getD cap = l then some a else (some a).map (·.add (l * ti.size))) = some (if mo.getD cap = l then a else a.add (l * ti.size)) := by split <;> rfl
          rw [this]
          exact VRel.vec0 _ _ _ _ hex2 (by omega)
        | vec len cap ex off hmm hs hp hc hex hl =>
          rename_i bk c T mk
          by_cases hz : hh = l
          · subst hz
            simp only [Nat.sub_self, Nat.zero_mul, List.take_zero]
            have : (if mo.getD cap = hh then some (⟨bk, off, none⟩ : Addr) else (some (⟨bk, off, none⟩ : Addr)).map (·.add (hh * ti.size))) = some (if mo.getD cap = hh then ⟨bk, off, none⟩ else (⟨bk, off, none⟩ : Addr).add (hh * ti.size)) := by split <;> rfl
            rw [this]
            exact VRel.vec0 _ _ _ _ (fun h => by have := hex2 h; omega) (by omega)
          · rw [if_neg (by omega)]
            simp only [Option.map_some, addr_add]
            have hle : l * ti.size + (hh - l) * ti.size ≤ n' * ti.size := by rw [← Nat.add_mul]; exact Nat.mul_le_mul_right _ (by omega)
            refine .vec _ _ _ _ hmm (by simp; omega) (fun i h1 => ?_) (fun i h1 h2 => ?_) hex2 (by omega)
            · simp only [List.length_take, List.length_drop] at h1
              simp only [List.getElem_take, List.getElem_drop]
              exact hp _ (by omega)
            · simp only [List.length_take, List.length_drop] at h1
              simp only [List.getElem_take, List.getElem_drop]
              have := hc (l * ti.size + i) (by omega) (by omega)
              simpa [Nat.add_assoc] using this
    split at h
    · rename_i l hh hb
      split at h
      · rename_i hcl
        cases h
        refine main l hh none _ hb hcl fun hex cap hcap => ?_
        simp at hex ⊢
        rw [hcap hex.1, hex.2]
      · cases h
    · rename_i l hh m hb
      split at h
      · rename_i hcl
        cases h
        refine main l hh (some m) _ hb hcl fun hex cap hcap => ?_
        simp at hex ⊢
        exact hex
      · cases h
    · cases h
  · -- live
    rename_i id off len lo0 ex e'
    rcases hk with ⟨n', hk, ht⟩ | ⟨_, ht⟩
    · cases hk
    split at h
    · rename_i hee
      subst hee
      cases hd : e x <;> rw [hd] at hv <;> try (cases hv; done)
      rename_i ad n' cap
      cases hv with
      | sl off len lo0 cap ex e' hρ hlo0 hex hsz =>
        rename_i bk sz
        have main : ∀ (l hh : Nat) (mo : Option Nat) (ex' : Bool), bnds len lo0 (lo'.map f) (hi'.map f) (mx'.map f) = some (l, hh, mo) → hh ≤ mo.getD lo0 → (ex' = true → mo.getD cap = mo.getD lo0) → (mo.getD lo0 = l ∧ l ≠ 0 → mo = none → ex' = ex) →
            Val P M ρ w e o (if mo.getD lo0 = l ∧ l ≠ 0 then .vec 0 ex' [] else .sl id (off + l * ti.size) (hh - l) (mo.getD lo0 - l) ex' ti.size) := by
          intro l hh mo ex' hb hhm hex' _
          obtain ⟨g1, g2, g3, g4⟩ := bnds_rel (P := P) (isS := true) (cap := cap) hlo2.1 hlo2.2 hhi2.1 hhi2.2 hmx2.1 hmx2.2 hlo0 hb
          have hm : mo.getD lo0 ≤ mo.getD cap ∧ mo.getD cap ≤ cap := by
            cases mo with
            | none => simp; omega
            | some m => have := g3 m rfl; simp; omega
          have hrun : (execOp e o).run P w = .ok (.value (.slice (if mo.getD cap = l then some ⟨bk, off, none⟩ else some ⟨bk, off + l * ti.size, none⟩) (hh - l) (mo.getD cap - l))) w := by
            simp only [execOp, hop, hd, Instr.sliceAt, Instr.slice, Sem.run_bind, run_und ht, Sem.run_pure, Result.andThen_ok, g1, run_size hi0, Option.map_some, addr_add]
          by_cases hc : mo.getD lo0 = l ∧ l ≠ 0
          · rw [if_pos hc]
            refine ⟨_, hrun, ?_⟩
            have e0 : hh - l = 0 := by omega
            rw [e0]
            have : (if mo.getD cap = l then some (⟨bk, off, none⟩ : Addr) else some ⟨bk, off + l * ti.size, none⟩) = some (if mo.getD cap = l then ⟨bk, off, none⟩ else ⟨bk, off + l * ti.size, none⟩) := by split <;> rfl
            rw [this]
            exact VRel.vec0 _ _ _ _ (fun h => by have := hex' h; omega) (Nat.zero_le _)
          · rw [if_neg hc]
            refine ⟨_, hrun, ?_⟩
            have e1 : (if mo.getD cap = l then some (⟨bk, off, none⟩ : Addr) else some ⟨bk, off + l * ti.size, none⟩) = some ⟨bk, off + l * ti.size, none⟩ := by
              split
              · rename_i hml2
                have : l = 0 := by
                  by_cases hl0 : l = 0
                  · exact hl0
                  · exact absurd ⟨by omega, hl0⟩ hc
                simp [this]
              · rfl
            rw [e1]
            refine .sl _ _ _ _ ex' _ hρ (by omega) (fun h => by rw [hex' h]) ?_
            have : l * ti.size + (mo.getD cap - l) * ti.size ≤ cap * ti.size := by
              rw [← Nat.add_mul]; exact Nat.mul_le_mul_right _ (by omega)
            omega
        split at h
        · rename_i l hh hb
          split at h
          · rename_i hh0
            have := main l hh none ex hb hh0 (fun h => hex h) (fun _ _ => rfl)
            simp only [Option.getD_none] at this
            split at h <;> cases h
            · rwa [if_pos (by assumption)] at this
            · rwa [if_neg (by assumption)] at this
          · cases h
        · rename_i l hh m hb
          have hhm : hh ≤ m := by
            obtain ⟨_, _, g3, _⟩ := bnds_rel (P := P) (isS := true) (cap := cap) hlo2.1 hlo2.2 hhi2.1 hhi2.2 hmx2.1 hmx2.2 hlo0 hb
            exact (g3 m rfl).1
          have := main l hh (some m) true hb hhm (fun _ => rfl) (fun _ h => by cases h)
          simp only [Option.getD_some] at this
          split at h <;> cases h
          · rwa [if_pos (by assumption)] at this
          · rwa [if_neg (by assumption)] at this
        · cases h
    · cases h
  · rcases hk with ⟨n', hk, _⟩ | ⟨hk, _⟩ <;> cases hk
  · cases h
end Go.Mach
