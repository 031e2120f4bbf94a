/-
  The operations that leave the heap alone do what the model does. By an AI agent.
-/
import Derived.Test.YtpifopfpgfbdgaaMc
import Derived.Laws.StructEq
import Derived.Laws.BytesString
set_option linter.unusedSimpArgs false
set_option linter.unusedVariables false
namespace Go.Mach
variable {P : Program} {M : Mem} {ρ : Rho} {H : Heap} {w : World}

/-! ### Inversions -/
theorem VRel.inv_int {k : IntKind} {n : Int} {d : Value} (h : VRel M ρ (.int k n) d) : d = .int k n := by cases h; rfl
theorem VRel.inv_bool {b : Bool} {d : Value} (h : VRel M ρ (.bool b) d) : d = .bool b := by cases h; rfl
theorem VRel.inv_str {s : ByteArray} {d : Value} (h : VRel M ρ (.str s) d) : d = .string s := by cases h; rfl

theorem flat_rel {v : AV} {d : Value} {xs : List AV} (h : VRel M ρ v d) (hf : v.flat = some xs) : d.cells.size = xs.length ∧ CRel M ρ xs d.cells := by
  have one : ∀ (v : AV) (d : Value), VRel M ρ v d → v.isCell = true → d.cells = #[d] → d.cells.size = [v].length ∧ CRel M ρ [v] d.cells := by
    intro v d hv hc hd
    rw [hd]
    refine ⟨rfl, fun i h1 h2 => ?_⟩
    simp at h1
    subst h1
    exact ⟨hc, hv⟩
  cases h with
  | agg hl hp hc => cases hf; exact ⟨hl, fun i h1 h2 => ⟨hp i h1, hc i h1 h2⟩⟩
  | tup hl hc => cases hf
  | int k n => cases hf; exact one _ _ (.int k n) rfl rfl
  | bool b => cases hf; exact one _ _ (.bool b) rfl rfl
  | str s => cases hf; exact one _ _ (.str s) rfl rfl
  | nilp => cases hf; exact one _ _ .nilp rfl rfl
  | ptr off h => cases hf; exact one _ _ (.ptr off h) rfl rfl
  | pv off o h hs hp hc => cases hf; exact one _ _ (.pv off o h hs hp hc) rfl rfl
  | nils => cases hf; exact one _ _ .nils rfl rfl
  | sl off len lo cap ex e h hlo hex hsz => cases hf; exact one _ _ (.sl off len lo cap ex e h hlo hex hsz) rfl rfl
  | vec0 len cap ex a hex hl => cases hf; exact one _ _ (.vec0 len cap ex a hex hl) rfl rfl
  | vec len cap ex o h hs hp hc hex hl => cases hf; exact one _ _ (.vec len cap ex o h hs hp hc hex hl) rfl rfl
  | fn f h1 h2 hf' hc => cases hf; exact one _ _ (.fn f h1 h2 hf' hc) rfl rfl
  | nilf => cases hf; exact one _ _ .nilf rfl rfl
  | mp h => cases hf; exact one _ _ (.mp h) rfl rfl
  | nilm => cases hf; exact one _ _ .nilm rfl rfl

/-! ### Filling -/
def putD (c : Array Value) (off : Nat) : List Value → Array Value
  | [] => c
  | x :: xs => putD (c.setIfInBounds off x) (off + 1) xs

theorem putD_size (ys : List Value) : ∀ (c : Array Value) (off : Nat), (putD c off ys).size = c.size := by
  induction ys with
  | nil => intro c off; rfl
  | cons y ys ih => intro c off; simp [putD, ih]

theorem putD_get (ys : List Value) : ∀ (c : Array Value) (off : Nat) (_ : off + ys.length ≤ c.size) (i : Nat) (hi : i < c.size), (i < off ∨ off + ys.length ≤ i → (putD c off ys)[i]'(by rw [putD_size]; exact hi) = c[i]) ∧ (∀ j (hj : j < ys.length), i = off + j → (putD c off ys)[i]'(by rw [putD_size]; exact hi) = ys[j]) := by
  induction ys with
  | nil => intro c off _ i hi; exact ⟨fun _ => rfl, fun j hj => absurd hj (by simp)⟩
  | cons y ys ih =>
    intro c off hl i hi
    simp at hl
    have := ih (c.setIfInBounds off y) (off + 1) (by simp; omega) i (by simp; exact hi)
    refine ⟨fun h => ?_, fun j hj h => ?_⟩
    · rw [List.length_cons] at h
      have h1 := this.1 (by omega)
      simp only [putD]
      rw [h1, Array.getElem_setIfInBounds, if_neg (by omega)]
    · cases j with
      | zero =>
        have h1 := this.1 (by omega)
        simp only [putD]
        rw [h1]
        have hoi : off = i := by omega
        subst hoi
        simp
      | succ j =>
        have h1 := this.2 j (by simpa using hj) (by omega)
        simp only [putD]
        rw [h1]; rfl

theorem put_length (ys : List AV) : ∀ (c : List AV) (off : Nat), (put c off ys).length = c.length := by
  induction ys with
  | nil => intro c off; rfl
  | cons y ys ih => intro c off; simp [put, ih]

theorem foldl_putD (l : List Value) : ∀ (n off : Nat) (c : Array Value), (l.zipIdx n).foldl (fun cs (p : Value × Nat) => cs.setIfInBounds (off + p.2) p.1) c = putD c (off + n) l := by
  induction l with
  | nil => intro n off c; rfl
  | cons x l ih => intro n off c; simp only [List.zipIdx_cons, List.foldl_cons, putD]; rw [ih (n + 1) off]; rfl

theorem CRel.set {cs : List AV} {c : Array Value} (h : CRel M ρ cs c) (off : Nat) {v : AV} {d : Value} (hc : v.isCell = true) (hv : VRel M ρ v d) : CRel M ρ (cs.set off v) (c.setIfInBounds off d) := by
  intro i h1 h2
  simp only [List.length_set] at h1
  simp only [Array.size_setIfInBounds] at h2
  rw [List.getElem_set, Array.getElem_setIfInBounds]
  split
  · exact ⟨hc, hv⟩
  · exact h i h1 h2

theorem CRel.put {xs : List AV} : ∀ {ys : List Value} {cs : List AV} {c : Array Value} (off : Nat), CRel M ρ cs c → xs.length = ys.length → (∀ i (h1 : i < xs.length) (h2 : i < ys.length), xs[i].isCell = true ∧ VRel M ρ xs[i] ys[i]) →
    CRel M ρ (Mach.put cs off xs) (putD c off ys) := by
  induction xs with
  | nil => intro ys cs c off h hl _; cases ys <;> simp at hl; exact h
  | cons x xs ih =>
    intro ys cs c off h hl hr
    cases ys with
    | nil => simp at hl
    | cons y ys =>
      have h0 := hr 0 (by simp) (by simp)
      exact ih (off + 1) (h.set off h0.1 h0.2) (by simpa using hl) (fun i h1 h2 => hr (i + 1) (by simpa using h1) (by simpa using h2))

theorem fill_rel {f : AOpd → AV} {e : Operand → Value} (hr : Reads M ρ f e) (place : Nat → Option (Nat × Nat)) {parts : List (Nat × Operand)} :
    ∀ {l : List (Nat × Nat × AOpd)} {cells : List AV} {c : Array Value} {cs : List AV}, trParts place parts = some l → CRel M ρ cells c → c.size = cells.length → fillA cells (l.map fun p => (p.1, p.2.1, f p.2.2)) = some cs →
      ∃ c', Instr.fill place c (parts.map fun p => (p.1, e p.2)) = some c' ∧ CRel M ρ cs c' ∧ c'.size = cs.length ∧ cs.length = cells.length := by
  induction parts with
  | nil =>
    intro l cells c cs hl hc hs hf
    cases hl
    simp [fillA] at hf
    subst hf
    exact ⟨c, rfl, hc, hs, rfl⟩
  | cons p parts ih =>
    obtain ⟨i, x⟩ := p
    intro l cells c cs hl hc hs hf
    simp only [trParts] at hl
    split at hl
    · rename_i o n a l' hp hx hl'
      cases hl
      simp only [List.map_cons, fillA] at hf
      split at hf
      · cases hf
      · rename_i xs hxs
        split at hf
        · rename_i hcond
          obtain ⟨h1, h2⟩ := hcond
          obtain ⟨g1, g2⟩ := flat_rel (hr _ _ hx) hxs
          have hc2 : CRel M ρ (put cells o xs) (putD c o (e x).cells.toList) := hc.put o (by simpa using g1.symm) (fun j h3 h4 => by
            have := g2 j h3 (by simpa using h4)
            rwa [← Array.getElem_toList] at this)
          obtain ⟨c', e1, e2, e3, e4⟩ := ih hl' hc2 (by rw [putD_size, put_length, hs]) hf
          refine ⟨c', ?_, e2, e3, by rw [e4, put_length]⟩
          simp only [List.map_cons, Instr.fill, hp]
          rw [if_neg (by simp; omega)]
          have hfold : (e x).cells.zipIdx.foldl (fun cs (p : Value × Nat) => cs.setIfInBounds (o + p.2) p.1) c = putD c o (e x).cells.toList := by
            rw [← Array.foldl_toList, Array.toList_zipIdx]
            have := foldl_putD (e x).cells.toList 0 o c
            simpa using this
          rw [← e1, ← hfold]
        · cases hf
    · cases hl

theorem run_places {fs : List Field} : ∀ {pl : List (Nat × Nat)}, placesOf P fs = some pl → ∀ w, (fs.mapM fun (f : Field) => do pure (f.offset, ← sizeOf f.type)).run P w = .ok pl w := by
  induction fs with
  | nil => intro pl h w; cases h; simp
  | cons f fs ih =>
    intro pl h w
    simp only [placesOf] at h
    split at h
    · rename_i i l hi hl
      cases h
      simp only [List.mapM_cons, Sem.run_bind, run_size hi, Result.andThen_ok, Sem.run_pure, ih hl]
    · cases h

/-! ### Equality -/
theorem run_eqRange (d : Nat) (elem : TypeId) {k : IntKind} (hu : P.underlying elem = some (.int k)) (hg : aggOf P elem = some false) (xs ys : Array Value) :
    ∀ (m s : Nat) (as bs : List AV) {b : Bool}, eqRow as bs = some b → m = as.length → s + m ≤ xs.size → s + m ≤ ys.size → (∀ j (h1 : j < as.length) (h2 : s + j < xs.size), VRel M ρ as[j] xs[s + j]) → (∀ j (h1 : j < bs.length) (h2 : s + j < ys.size), VRel M ρ bs[j] ys[s + j]) →
      ∃ r : Option Bool × PUnit, (forIn (List.range' s m) ((none, ()) : Option Bool × PUnit) fun i (_ : Option Bool × PUnit) => do
        let a ← Go.part elem xs (i * 1)
        let b ← Go.part elem ys (i * 1)
        let t ← Op.equalIn (d + 1) elem a b
        if (!t) = true then pure (ForInStep.done (some false, ())) else do pure PUnit.unit; pure (ForInStep.yield (none, ()))).run P w = .ok r w ∧ (b = true → r.1 = none) ∧ (b = false → r.1 = some false) := by
  intro m
  induction m with
  | zero =>
    intro s as bs b he hm _ _ _ _
    cases as with
    | nil => cases bs <;> simp [eqRow] at he; subst he; exact ⟨(none, ()), by simp, by simp, by simp⟩
    | cons a as => simp at hm
  | succ m ih =>
    intro s as bs b he hm h1 h2 hx hy
    cases as with
    | nil => simp at hm
    | cons a as =>
      cases bs with
      | nil => cases a <;> simp [eqRow] at he
      | cons c bs =>
        cases a <;> try (simp [eqRow] at he; done)
        rename_i k1 n1
        cases c <;> try (simp [eqRow] at he; done)
        rename_i k2 n2
        simp only [eqRow] at he
        split at he
        · rename_i hk
          subst hk
          have e1 : xs[s]'(by omega) = .int k1 n1 := by have := hx 0 (by simp) (by omega); simp at this; exact this.inv_int
          have e2 : ys[s]'(by omega) = .int k1 n2 := by have := hy 0 (by simp) (by omega); simp at this; exact this.inv_int
          have p1 : ∀ w, (Go.part elem xs (s * 1)).run P w = .ok (.int k1 n1) w := fun w => by
            simp only [Go.part, Sem.run_bind, run_agg hg, Result.andThen_ok, Bool.false_eq_true, if_false, Nat.mul_one]
            rw [Array.getElem?_eq_getElem (by omega), e1]; rfl
          have p2 : ∀ w, (Go.part elem ys (s * 1)).run P w = .ok (.int k1 n2) w := fun w => by
            simp only [Go.part, Sem.run_bind, run_agg hg, Result.andThen_ok, Bool.false_eq_true, if_false, Nat.mul_one]
            rw [Array.getElem?_eq_getElem (by omega), e2]; rfl
          have p3 := fun w => run_equalIn_int (P := P) w d elem k1 k n1 n2 hu
          simp only [List.range'_succ, List.forIn_cons, Sem.run_bind, p1, p2, p3, Result.andThen_ok]
          by_cases hn : n1 = n2
          · subst hn
            simp only [BEq.rfl, if_true] at he
            obtain ⟨r, e3, e4, e5⟩ := ih (s + 1) as bs he (by simpa using hm) (by omega) (by omega)
              (fun j h3 h4 => by have := hx (j + 1) (by simpa using h3) (by omega); simpa [Nat.add_assoc, Nat.add_comm 1 j] using this)
              (fun j h3 h4 => by have := hy (j + 1) (by simpa using h3) (by omega); simpa [Nat.add_assoc, Nat.add_comm 1 j] using this)
            exact ⟨r, by simpa using e3, e4, e5⟩
          · have hne : (n1 == n2) = false := by simp [hn]
            simp only [hne, Bool.false_eq_true, if_false] at he
            split at he
            · cases he
              exact ⟨(some false, ()), by simp [hne], by simp, by simp⟩
            · cases he
        · cases he


theorem run_equal_row (d D : Nat) (hD : D = d + 1) {t elem : TypeId} {n : Nat} {k : IntKind} {i : TypeInfo} (ht : P.underlying t = some (.array n elem)) (hu : P.underlying elem = some (.int k)) (hi : P.info? elem = some i) (hs : i.size = 1)
    {as bs : List AV} {xs ys : Array Value} {b : Bool} (he : eqRow as bs = some b) (hn : as.length = n) (hx : VRel M ρ (.agg as) (.agg xs)) (hy : VRel M ρ (.agg bs) (.agg ys)) (hlen : as.length = bs.length) :
    (Op.equalIn (D + 1) t (.agg xs) (.agg ys)).run P w = .ok b w := by
  have hg : aggOf P elem = some false := by unfold aggOf; rw [hu]
  cases hx with
  | agg hl1 _ hc1 =>
  cases hy with
  | agg hl2 _ hc2 =>
  obtain ⟨r, e1, e2, e3⟩ := run_eqRange (P := P) (M := M) (ρ := ρ) (w := w) d elem hu hg xs ys n 0 as bs he hn.symm (by omega) (by omega)
    (fun j h1 h2 => by simpa using hc1 j h1 (by omega)) (fun j h1 h2 => by simpa using hc2 j h1 (by omega))
  rw [← hD] at e1
  simp only [Op.equalIn, Sem.run_bind, run_und ht, Result.andThen_ok, run_size hi, hs]
  rw [Std.Legacy.Range.forIn_eq_forIn_range']
  have h0 : List.range' (0 : Nat) ([:n] : Std.Legacy.Range).size 1 = List.range' 0 n := by simp [Std.Legacy.Range.size]
  simp only [h0]
  rw [e1]
  obtain ⟨r1, r2⟩ := r
  cases b with
  | true => rw [show r1 = none from e2 rfl]; rfl
  | false => rw [show r1 = some false from e3 rfl]; rfl

theorem eqRow_len : ∀ (as bs : List AV) {b : Bool}, eqRow as bs = some b → as.length = bs.length := by
  intro as
  induction as with
  | nil => intro bs b h; cases bs <;> simp [eqRow] at h; rfl
  | cons a as ih =>
    intro bs b h
    cases bs with
    | nil => cases a <;> simp [eqRow] at h
    | cons c bs =>
      cases a <;> try (simp [eqRow] at h; done)
      cases c <;> try (simp [eqRow] at h; done)
      simp only [eqRow] at h
      split at h
      · split at h
        · simp [ih bs h]
        · split at h
          · simpa using ‹as.length = bs.length›
          · cases h
      · cases h

/-! ### Each operation -/
def Val (P : Program) (M : Mem) (ρ : Rho) (w : World) (e : Operand → Value) (o : Oper) (v : AV) : Prop := ∃ v', (execOp e o).run P w = .ok (.value v') w ∧ VRel M ρ v v'

variable {f : AOpd → AV} {e : Operand → Value} {o : Oper} {v : AV}

/-- Values of one nilable kind. -/
inductive IsK : Nat → Value → Bool → Prop
  | ptr (z : Option Addr) : IsK 0 (.pointer z) z.isNone
  | sl (z : Option Addr) (n c : Nat) : IsK 1 (.slice z n c) z.isNone
  | map (z : Option Nat) : IsK 2 (.map z) z.isNone
  | nilf : IsK 3 .nilFunc true
  | fn (a : Fn) (b c : Array Value) : IsK 3 (.func a b c) false

theorem eqNil_rel {k : Nat} {a : AV} {d : Value} {b : Bool} (h : VRel M ρ a d) (he : eqNil k a = some b) : IsK k d b := by
  unfold eqNil at he
  split at he <;> cases he <;> cases h <;> first | exact IsK.ptr _ | exact IsK.sl _ _ _ | exact IsK.map _ | exact IsK.nilf | exact IsK.fn _ _ _

def kindOk (P : Program) (t : TypeId) : Nat → Prop
  | 0 => ∃ el, P.underlying t = some (.pointer el)
  | 1 => ∃ el, P.underlying t = some (.slice el)
  | 2 => ∃ kt el, P.underlying t = some (.map kt el)
  | 3 => ∃ a b c, P.underlying t = some (.func a b c)
  | _ => False

theorem run_equal_nil (D : Nat) {k : Nat} {t : TypeId} (ht : kindOk P t k) {d d' : Value} {p q : Bool} (h1 : IsK k d p) (h2 : IsK k d' q) (hor : (p || q) = true) : (Op.equalIn (D + 1) t d d').run P w = .ok (p && q) w := by
  cases h1 <;> cases h2 <;> simp only [kindOk] at ht
  · rename_i z z'
    obtain ⟨el, ht⟩ := ht
    cases z <;> cases z' <;> simp at hor <;> simp [Op.equalIn, run_und ht]
  · rename_i z n c z' n' c'
    obtain ⟨el, ht⟩ := ht
    cases z <;> cases z' <;> simp at hor <;> simp [Op.equalIn, run_und ht]
  · rename_i z z'
    obtain ⟨kt, el, ht⟩ := ht
    cases z <;> cases z' <;> simp at hor <;> simp [Op.equalIn, run_und ht]
  all_goals
    obtain ⟨a, b, c, ht⟩ := ht
    first | (simp at hor; done) | simp [Op.equalIn, run_und ht]

theorem guard_nil {op : BinOp} {t : TypeId} {x y : Operand} {k : Nat} {d d' : Value} {p q : Bool} (h1 : IsK k d p) (h2 : IsK k d' q) : (eqGuard op t x y d d').run P w = .ok () w := by
  unfold eqGuard; cases h1 <;> cases h2 <;> cases op <;> rfl

theorem binOp_nil {op : BinOp} {t : TypeId} {k : Nat} {d d' : Value} {p q : Bool} (h1 : IsK k d p) (h2 : IsK k d' q) : 
    (binOp .eql t d d' = do pure (.bool (← Op.equal t d d'))) ∧ (binOp .neq t d d' = do pure (.bool (!(← Op.equal t d d')))) := by
  cases h1 <;> cases h2 <;> exact ⟨rfl, rfl⟩

theorem bin_rel {op : BinOp} {k k' : IntKind} {a b : Int} {r : AV} (h : binA op (.int k a) (.int k' b) = some r) (t : TypeId) : ∃ r', (binOp op t (.int k a) (.int k' b)).run P w = .ok r' w ∧ VRel M ρ r r' := by
  cases op <;> simp only [binA] at h <;> first
    | (split at h
       · rename_i hk; subst hk
         simp only [ibin] at h
         first
           | (cases h; first | refine ⟨_, ?_, VRel.int _ _⟩ | refine ⟨_, ?_, VRel.bool _⟩
              simp [binOp, Op.intArith, Op.intBits, Op.intCmp])
           | (split at h
              · cases h
              · rename_i hb; cases h; refine ⟨_, ?_, VRel.int _ _⟩; simp [binOp, Op.intDiv, hb])
       · cases h)
    | (simp only [ibin] at h
       split at h
       · cases h
       · rename_i hb; cases h; refine ⟨_, ?_, VRel.int _ _⟩; simp [binOp, Op.shift, hb])

theorem str_rel {op : BinOp} {a b : ByteArray} {r : AV} (h : binA op (.str a) (.str b) = some r) (t : TypeId) : ∃ r', (binOp op t (.string a) (.string b)).run P w = .ok r' w ∧ VRel M ρ r r' := by
  cases op <;> simp only [binA] at h <;> first
    | (cases h; done)
    | (cases h; refine ⟨_, ?_, VRel.bool _⟩; simp [binOp, Op.stringOp]; done)
    | (split at h
       · rename_i hs; cases h
         refine ⟨_, ?_, VRel.str _⟩
         simp only [binOp, Op.stringOp]
         rw [if_neg (by simp [IntKind.max, IntKind.signed, IntKind.bits]; omega)]
         rfl
       · cases h)

theorem guard_int {op : BinOp} {t : TypeId} {x y : Operand} {k k' : IntKind} {a b : Int} : (eqGuard op t x y (.int k a) (.int k' b)).run P w = .ok () w := by
  unfold eqGuard; cases op <;> rfl
theorem guard_str {op : BinOp} {t : TypeId} {x y : Operand} {a b : ByteArray} : (eqGuard op t x y (.string a) (.string b)).run P w = .ok () w := by
  unfold eqGuard; cases op <;> rfl
theorem guard_bool {op : BinOp} {t : TypeId} {x y : Operand} {a b : Bool} : (eqGuard op t x y (.bool a) (.bool b)).run P w = .ok () w := by
  unfold eqGuard; cases op <;> rfl
theorem guard_agg {op : BinOp} {t : TypeId} {x y : Operand} {a b : Array Value} (h : P.eqGuardType P.depth t = false) : (eqGuard op t x y (.agg a) (.agg b)).run P w = .ok () w := by
  unfold eqGuard; cases op <;> first | rfl | simp [h]

theorem run_bin {op : BinOp} {t u : TypeId} {x y : Operand} (hop : o.op = .binOp op t x y u) {d : Value} (hg : (eqGuard op t x y (e x) (e y)).run P w = .ok () w) (h : (binOp op t (e x) (e y)).run P w = .ok d w) : (execOp e o).run P w = .ok (.value d) w := by
  simp [execOp, hop, hg, h]
end Go.Mach
