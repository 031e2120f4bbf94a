/-
  The operations that leave the heap alone, the rest, and all of them together. By an AI agent.
-/
import Derived.Test.YtpifopfpgfbdgaaMe
set_option linter.unusedSimpArgs false
set_option linter.unusedVariables false
namespace Go.Mach
variable {P : Program} {M : Mem} {ρ : Rho} {H : Heap} {w : World} {f : AOpd → AV} {e : Operand → Value} {o : Oper} {v : AV}

theorem val_slcs {t : TypeId} {x : Operand} {lo hi : Option Operand} {a : AOpd} {lo' hi' : Option AOpd} (hr : Reads M ρ f e) (hop : o.op = .slice t x lo hi none) (hx : trO x = some a)
    (hlo : trOO lo = some lo') (hhi : trOO hi = some hi') (ht : P.underlying t = some .string) (h : pureA f H (.slc .str 0 a lo' hi' none) = some v) : Val P M ρ w e o v := by
  have hv := hr _ _ hx
  have hlo2 := trOO_rel hr hlo
  have hhi2 := trOO_rel hr hhi
  simp only [pureA] at h
  generalize f a = fa at h hv
  cases fa <;> simp only [slcA] at h <;> try (cases h; done)
  rename_i s
  split at h
  · rename_i l hh mo hb
    cases h
    cases hd : e x <;> rw [hd] at hv <;> try (cases hv; done)
    cases hv
    obtain ⟨g1, g2, g3, g4⟩ := bnds_rel (P := P) (isS := false) (mx := none) (mx' := none) hlo2.1 hlo2.2 hhi2.1 hhi2.2 (by simp) (by simp) (Nat.le_refl _) hb
    refine ⟨_, ?_, VRel.str _⟩
    simp only [execOp, hop, hd, Instr.sliceAt, Instr.slice, Sem.run_bind, run_und ht, Sem.run_pure, Result.andThen_ok, Option.map_none, Option.isSome_none, Bool.false_eq_true, if_false, g1]
  · cases h

theorem val_faddr {s : TypeId} {x : Operand} {k : Nat} {a : AOpd} {fields : Array Field} {fd : Field} {ti : TypeInfo} (hr : Reads M ρ f e) (hop : o.op = .fieldAddr s x k) (hx : trO x = some a) (ht : P.underlying s = some (.struct fields))
    (hf : fields[k]? = some fd) (hi : P.info? fd.type = some ti) (hs : ti.size ≠ 0) (h : pureA f H (.faddr fd.offset a) = some v) : Val P M ρ w e o v := by
  have hv := hr _ _ hx
  have key : ∀ b o', e x = .pointer (some ⟨b, o', none⟩) → (execOp e o).run P w = .ok (.value (.pointer (some ⟨b, o' + fd.offset, none⟩))) w := by
    intro b o' hd
    simp only [execOp, hop, hd, Instr.fieldAt, Instr.sureAddr, Sem.run_bind, run_und ht, Result.andThen_ok, hf, Sem.run_pure, fieldPlace, run_size hi, Sem.run_ite]
    rw [if_neg hs]
    simp only [Result.andThen_ok, addr_add]
  simp only [pureA] at h
  generalize f a = fa at h hv
  split at h
  · rename_i id off
    cases h
    generalize hd : e x = d at hv
    cases hv with
    | ptr off hid => exact ⟨_, key _ _ hd, .ptr _ hid⟩
  · rename_i cs off
    cases h
    generalize hd : e x = d at hv
    cases hv with
    | pv off o' hm hs' hp hc => exact ⟨_, key _ _ hd, by rw [Nat.add_assoc]; exact .pv _ _ hm hs' hp hc⟩
  · cases h

theorem val_fld {s : TypeId} {x : Operand} {k : Nat} {a : AOpd} {fields : Array Field} {fd : Field} {ti : TypeInfo} {g : Bool} (hr : Reads M ρ f e) (hop : o.op = .field s x k) (hx : trO x = some a) (ht : P.underlying s = some (.struct fields))
    (hf : fields[k]? = some fd) (hg : aggOf P fd.type = some g) (hi : P.info? fd.type = some ti) (h : pureA f H (.fld g fd.offset ti.size a) = some v) : Val P M ρ w e o v := by
  have hv := hr _ _ hx
  simp only [pureA] at h
  generalize f a = fa at h hv
  split at h
  · rename_i cs
    generalize hd : e x = d at hv
    cases hv with
    | agg hl hp hc =>
      obtain ⟨r', h1, h2⟩ := run_part (M := M) (ρ := ρ) (w := w) hg hi h hl (fun j g1 g2 => ⟨hp j g1, hc j g1 g2⟩)
      exact ⟨r', by simp only [execOp, hop, hd, Instr.field, asAgg, Sem.run_bind, run_und ht, Result.andThen_ok, hf, Sem.run_pure, h1], h2⟩
  · cases h

theorem val_iaddr {t el : TypeId} {x i : Operand} {a b : AOpd} {ti : TypeInfo} {arr : Option Nat} (hr : Reads M ρ f e) (hop : o.op = .indexAddr t x i) (hx : trO x = some a) (hi : trO i = some b)
    (ht : (∃ n, arr = some n ∧ P.underlying t = some (.array n el)) ∨ (arr = none ∧ P.underlying t = some (.slice el))) (hti : P.info? el = some ti) (h : pureA f H (.iaddr arr ti.size a b) = some v) : Val P M ρ w e o v := by
  have hv := hr _ _ hx
  have hj := hr _ _ hi
  simp only [pureA] at h
  generalize f a = fa at h hv
  generalize f b = fb at h hj
  unfold iaddrA at h
  split at h
  · rename_i k j
    have ej := hj.inv_int
    split at h
    · rename_i n id off
      rcases ht with ⟨n', hn, ht⟩ | ⟨hn, _⟩ <;> cases hn
      split at h
      · rename_i hjn
        cases h
        generalize hd : e x = d at hv
        cases hv with
        | ptr off hid =>
          refine ⟨_, ?_, .ptr _ hid⟩
          simp only [execOp, hop, hd, ej, Instr.indexAt, asIntOf, Instr.sureAddr, Sem.run_bind, run_und ht, Result.andThen_ok, Sem.run_pure, run_size hti, Sem.run_ite, addr_add]
          rw [if_pos hjn]; rfl
      · cases h
    · rename_i n cs off
      rcases ht with ⟨n', hn, ht⟩ | ⟨hn, _⟩ <;> cases hn
      split at h
      · rename_i hjn
        cases h
        generalize hd : e x = d at hv
        cases hv with
        | pv off o' hm hs' hp hc =>
          rename_i bk c T mk
          refine ⟨.pointer (some ⟨bk, o' + (off + j.toNat * ti.size), none⟩), ?_, .pv _ _ hm hs' hp hc⟩
          simp only [execOp, hop, hd, ej, Instr.indexAt, asIntOf, Instr.sureAddr, Sem.run_bind, run_und ht, Result.andThen_ok, Sem.run_pure, run_size hti, Sem.run_ite, addr_add]
          rw [if_pos hjn, Nat.add_assoc]; rfl
      · cases h
    · rename_i id off len lo ex e'
      rcases ht with ⟨n', hn, ht⟩ | ⟨_, ht⟩
      · cases hn
      split at h
      · rename_i hjn
        cases h
        generalize hd : e x = d at hv
        cases hv with
        | sl off len lo cap ex e' hid hlo hex hsz =>
          refine ⟨_, ?_, .ptr _ hid⟩
          simp only [execOp, hop, hd, ej, Instr.indexAt, asIntOf, Sem.run_bind, run_und ht, Result.andThen_ok, Sem.run_pure, run_size hti, Sem.run_ite, addr_add]
          rw [if_pos hjn]; rfl
      · cases h
    · rename_i len ex cs
      rcases ht with ⟨n', hn, ht⟩ | ⟨_, ht⟩
      · cases hn
      split at h
      · rename_i hjn
        obtain ⟨hj0, hj1, hcs⟩ := hjn
        cases h
        generalize hd : e x = d at hv
        cases hv with
        | vec0 len cap ex a hex hl => exact absurd rfl hcs
        | vec len cap ex o' hm hs' hp hc hex hl =>
          rename_i bk c T mk
          refine ⟨.pointer (some ⟨bk, o' + j.toNat * ti.size, none⟩), ?_, .pv _ _ hm hs' hp hc⟩
          simp only [execOp, hop, hd, ej, Instr.indexAt, asIntOf, Sem.run_bind, run_und ht, Result.andThen_ok, Sem.run_pure, run_size hti, Sem.run_ite, addr_add]
          rw [if_pos ⟨hj0, hj1⟩]; rfl
      · cases h
    · cases h
  · cases h

theorem val_idx {t el : TypeId} {n : Nat} {x i : Operand} {a b : AOpd} {ti : TypeInfo} {g : Bool} (hr : Reads M ρ f e) (hop : o.op = .index t x i) (hx : trO x = some a) (hi : trO i = some b)
    (ht : P.underlying t = some (.array n el)) (hg : aggOf P el = some g) (hti : P.info? el = some ti) (h : pureA f H (.idx g n ti.size a b) = some v) : Val P M ρ w e o v := by
  have hv := hr _ _ hx
  have hj := hr _ _ hi
  simp only [pureA] at h
  generalize f a = fa at h hv
  generalize f b = fb at h hj
  split at h
  · rename_i cs k j
    have ej := hj.inv_int
    split at h
    · rename_i hjn
      generalize hd : e x = d at hv
      cases hv with
      | agg hl hp hc =>
        obtain ⟨r', h1, h2⟩ := run_part (M := M) (ρ := ρ) (w := w) hg hti h hl (fun j g1 g2 => ⟨hp j g1, hc j g1 g2⟩)
        refine ⟨r', ?_, h2⟩
        simp only [execOp, hop, hd, ej, Instr.index, asIntOf, Sem.run_bind, run_und ht, Result.andThen_ok, Sem.run_pure, Sem.run_ite, run_size hti]
        rw [if_pos hjn, h1]; rfl
    · cases h
  · cases h

theorem val_idxs {t : TypeId} {x i : Operand} {a b : AOpd} (hr : Reads M ρ f e) (hop : o.op = .index t x i) (hx : trO x = some a) (hi : trO i = some b) (ht : P.underlying t = some .string) (h : pureA f H (.idxs a b) = some v) : Val P M ρ w e o v := by
  have hv := hr _ _ hx
  have hj := hr _ _ hi
  simp only [pureA] at h
  generalize f a = fa at h hv
  generalize f b = fb at h hj
  split at h
  · rename_i s k j
    have ej := hj.inv_int
    have es := hv.inv_str
    split at h
    · rename_i hj0
      split at h
      · rename_i c hc
        cases h
        refine ⟨_, ?_, VRel.int _ _⟩
        simp only [execOp, hop, es, ej, Instr.index, asIntOf, Sem.run_bind, run_und ht, Result.andThen_ok, Sem.run_pure, hj0, if_true, hc]
      · cases h
    · cases h
  · cases h

theorem val_ext {x : Operand} {i : Nat} {a : AOpd} (hr : Reads M ρ f e) (hop : o.op = .extract x i) (hx : trO x = some a) (h : pureA f H (.ext a i) = some v) : Val P M ρ w e o v := by
  have hv := hr _ _ hx
  simp only [pureA] at h
  generalize f a = fa at h hv
  split at h
  · rename_i vs
    generalize hd : e x = d at hv
    cases hv with
    | tup hl hc =>
      rename_i ds
      obtain ⟨hlt, rfl⟩ := List.getElem?_eq_some_iff.1 h
      have hlt2 : i < ds.size := by omega
      refine ⟨ds[i], ?_, hc i hlt hlt2⟩
      simp only [execOp, hop, hd, Instr.extract, Array.getElem?_eq_getElem hlt2, Sem.run_bind, Sem.run_pure, Result.andThen_ok]
  · cases h

/-! ### Maps -/
/-- The kind of key that a map's key type holds. -/
def keyKind (u : TypeDesc) (k : AV) : Prop := (∃ kk, u = .int kk ∧ ∃ k' n, k = .int k' n) ∨ (u = .string ∧ ∃ s, k = .str s)

theorem sameNow_rel {u : TypeDesc} {k a : AV} {dk da : Value} (hk : keyKind u k) (h1 : VRel M ρ k dk) (h2 : VRel M ρ a da) {b : Bool} (hb : keyEq k a = some b) : Instr.sameNow u dk da = some b := by
  rcases hk with ⟨kk, rfl, k', n, rfl⟩ | ⟨rfl, s, rfl⟩
  · cases a <;> simp only [keyEq] at hb <;> try (cases hb; done)
    rw [h1.inv_int, h2.inv_int]
    split at hb
    · rename_i e1; subst e1; cases hb; simp [Instr.sameNow]
    · cases hb
  · cases a <;> simp only [keyEq] at hb <;> try (cases hb; done)
    rw [h1.inv_str, h2.inv_str]
    cases hb; simp [Instr.sameNow]

theorem find_rel {u : TypeDesc} {k : AV} {dk : Value} (hk : keyKind u k) (h1 : VRel M ρ k dk) : ∀ {es : List (AV × AV)} {ents : List MapEntry} (s : Nat) {r : Option AV}, findA k es = some r → ents.length = es.length →
    (∀ i (g1 : i < es.length) (g2 : i < ents.length), VRel M ρ es[i].1 ents[i].key ∧ VRel M ρ es[i].2 ents[i].val) →
    ∃ r', Instr.findNow u dk ents s = some r' ∧ ((r = none ∧ r' = none) ∨ ∃ a i x, r = some a ∧ r' = some (i, x) ∧ VRel M ρ a x) := by
  intro es
  induction es with
  | nil => intro ents s r h hl _; cases h; cases ents <;> simp at hl; exact ⟨none, rfl, .inl ⟨rfl, rfl⟩⟩
  | cons p es ih =>
    obtain ⟨a, x⟩ := p
    intro ents s r h hl hc
    cases ents with
    | nil => simp at hl
    | cons en ents =>
      have h0 : VRel M ρ a en.key ∧ VRel M ρ x en.val := hc 0 (by simp) (by simp)
      simp only [findA] at h
      split at h
      · rename_i hb
        cases h
        exact ⟨some (s, en.val), by simp [Instr.findNow, sameNow_rel hk h1 h0.1 hb], .inr ⟨_, _, _, rfl, rfl, h0.2⟩⟩
      · rename_i hb
        obtain ⟨r', e1, e2⟩ := ih (s + 1) h (by simpa using hl) (fun i g1 g2 => hc (i + 1) (by simpa using g1) (by simpa using g2))
        exact ⟨r', by simp [Instr.findNow, sameNow_rel hk h1 h0.1 hb, e1], e2⟩
      · cases h

theorem run_checkKey {kt : TypeId} {u : TypeDesc} (ht : P.underlying kt = some u) (hu : (∃ k, u = .int k) ∨ u = .string) (n : Nat) (b : Bool) (d : Value) : (Instr.checkKey b (n + 1) kt d).run P w = .ok () w := by
  rcases hu with ⟨k, rfl⟩ | rfl <;> simp [Instr.checkKey, run_und ht]

theorem trKey_und {kt : TypeId} {b : Bool} (h : trKey P kt = some b) : ∃ u, P.underlying kt = some u ∧ ((∃ k, u = .int k) ∨ u = .string) ∧ ∀ k, isKey b k = true → keyKind u k := by
  unfold trKey at h
  split at h
  · rename_i k hk
    cases h
    refine ⟨_, hk, .inl ⟨k, rfl⟩, fun k hk => ?_⟩
    cases k <;> simp [isKey] at hk
    exact .inl ⟨_, rfl, _, _, rfl⟩
  · rename_i hk
    cases h
    refine ⟨_, hk, .inr rfl, fun k hk => ?_⟩
    cases k <;> simp [isKey] at hk
    exact .inr ⟨rfl, _, rfl⟩
  · cases h

theorem map_rel (hR : Rel M ρ H w) {id b sz : Nat} {es : List (AV × AV)} (hi : ρ id = some (b, sz)) (h : H.obj id = .map es) : ∃ (ents : Array MapEntry) (clock : Nat), w.heap[b]? = some (.map ents clock) ∧ ents.size = es.length ∧
    ∀ i (h1 : i < es.length) (h2 : i < ents.size), VRel M ρ es[i].1 ents[i].key ∧ VRel M ρ es[i].2 ents[i].val := by
  have := hR.obj id b sz hi
  rw [h] at this
  exact this.2

theorem run_getMap {b : Nat} {ents : Array MapEntry} {clock : Nat} (h : w.heap[b]? = some (.map ents clock)) : (getObj b).run P w = .ok (.map ents clock) w := by
  simp [getObj, Sem.run, h]

theorem val_lkp {t kt el : TypeId} {x k : Operand} {ok : Bool} {a b : AOpd} {ti : TypeInfo} {z : Value} {z' : AV} {sb : Bool} (hR : Rel M ρ H w) (hr : Reads M ρ f e) (hop : o.op = .lookup t x k ok) (hx : trO x = some a) (hk : trO k = some b)
    (ht : P.underlying t = some (.map kt el)) (hti : P.info? el = some ti) (hz : ti.zero = some z) (hz' : trV z = some z') (hkey : trKey P kt = some sb) (h : pureA f H (.lkp sb z' ok a b) = some v) : Val P M ρ w e o v := by
  have hv := hr _ _ hx
  have hkv := hr _ _ hk
  obtain ⟨u, hu, hu2, hu3⟩ := trKey_und hkey
  have hzr : VRel M ρ z' z := trV_rel hz'
  simp only [pureA] at h
  generalize f a = fa at h hv
  split at h
  · rename_i hik
    have hkk := hu3 _ hik
    have tup : ∀ (a : AV) (d : Value) (q : Bool), VRel M ρ a d → VRel M ρ (.tup [a, .bool q]) (.tuple #[d, .bool q]) := by
      intro a d q had
      refine .tup rfl fun i h1 h2 => ?_
      match i, h1 with
      | 0, _ => exact had
      | 1, _ => exact .bool q
    split at h
    · cases h
      generalize hd : e x = d at hv
      cases hv
      refine ⟨if ok then .tuple #[z, .bool false] else z, ?_, ?_⟩
      · simp only [execOp, hop, hd, Instr.lookup, Sem.run_bind, run_und ht, Result.andThen_ok, Sem.run_pure, run_checkKey hu hu2 9999, Instr.findKey, run_und hu, Instr.findNow, run_zero hti hz]
      · cases ok
        · exact hzr
        · exact tup _ _ _ hzr
    · rename_i id
      split at h
      · rename_i es hes
        generalize hd : e x = d at hv
        cases hv with
        | mp hid =>
          obtain ⟨ents, clock, g1, g2, g3⟩ := map_rel hR hid hes
          have pre : ∀ (r : Option (Nat × Value)), Instr.findNow u (e k) ents.toList 0 = some r → ∀ res, (match r with
              | some (_, v) => pure (v, true)
              | none => do pure (← zeroValue el, false) : Sem (Value × Bool)).run P w = .ok res w → (execOp e o).run P w = .ok (.value (if ok then .tuple #[res.1, .bool res.2] else res.1)) w := by
            intro r hfr res hres
            simp only [execOp, hop, hd, Instr.lookup, Sem.run_bind, run_und ht, Result.andThen_ok, Sem.run_pure, run_getMap g1, run_checkKey hu hu2 9999, Instr.findKey, run_und hu, hfr]
            cases r with
            | none => simp only [Sem.run_bind, run_zero hti hz, Result.andThen_ok, Sem.run_pure] at hres ⊢; cases hres; rfl
            | some p => obtain ⟨i, q⟩ := p; simp only [Sem.run_pure] at hres; cases hres; rfl
          split at h
          · rename_i q hq
            cases h
            obtain ⟨r', e1, e2⟩ := find_rel hkk hkv 0 hq (by rw [Array.length_toList]; exact g2) (fun i h1 h2 => by simpa using g3 i h1 (by simpa using h2))
            rcases e2 with ⟨h0, _⟩ | ⟨a', i, q', h1, h2, h3⟩
            · cases h0
            · cases h1
              subst h2
              refine ⟨_, pre _ e1 (q', true) rfl, ?_⟩
              cases ok
              · exact h3
              · exact tup _ _ _ h3
          · rename_i hq
            cases h
            obtain ⟨r', e1, e2⟩ := find_rel hkk hkv 0 hq (by rw [Array.length_toList]; exact g2) (fun i h1 h2 => by simpa using g3 i h1 (by simpa using h2))
            rcases e2 with ⟨_, h0⟩ | ⟨a', i, q', h1, h2, h3⟩
            · subst h0
              refine ⟨_, pre _ e1 (z, false) (by simp [run_zero hti hz]), ?_⟩
              cases ok
              · exact hzr
              · exact tup _ _ _ hzr
            · cases h1
          · cases h
      · cases h
    · cases h
  · cases h

theorem run_call_builtin {c : Call} {b : Builtin} {d : Array Value} {ts : Array TypeId} (hop : o.op = .call c) (hc : c.callee = .builtin b) (hts : c.argTypes = ts) (has : c.args.map e = d) (w' : World) {r : Next} 
    (h : ∀ cs, (builtin b ts o.type cs d).run P w = .ok r w') : (execOp e o).run P w = .ok r w' := by
  simp only [execOp, hop, resolve, hc, hts, invoke, Sem.run_bind, Sem.run_pure, Result.andThen_ok, has, h]

theorem toList_one {α : Type} {a : Array α} {x : α} (h : a.toList = [x]) : a = #[x] := by rw [← Array.toList_inj]; exact h
theorem toList_two {α : Type} {a : Array α} {x y : α} (h : a.toList = [x, y]) : a = #[x, y] := by rw [← Array.toList_inj]; exact h

def lenOk (P : Program) (t : TypeId) : Nat → Prop
  | 0 => P.underlying t = some .string
  | 1 => ∃ el, P.underlying t = some (.slice el)
  | 2 => ∃ kt el, P.underlying t = some (.map kt el)
  | _ => False

theorem val_len {c : Call} {t : TypeId} {x : Operand} {a : AOpd} {k : Nat} (hR : Rel M ρ H w) (hr : Reads M ρ f e) (hop : o.op = .call c) (hc : c.callee = .builtin .len) (hts : c.argTypes.toList = [t]) (has : c.args.toList = [x]) (hx : trO x = some a)
    (ht : lenOk P t k) (h : pureA f H (.len k a) = some v) : Val P M ρ w e o v := by
  have hv := hr _ _ hx
  have key : ∀ d r, e x = d → (Builtin.len_ #[t] o.type #[d]).run P w = .ok r w → (execOp e o).run P w = .ok (.value r) w := by
    intro d r hd hrun
    refine run_call_builtin hop hc (toList_one hts) (d := #[d]) (by rw [toList_one has]; simp [hd]) w fun cs => ?_
    simp only [builtin, Sem.run_bind, hrun, Result.andThen_ok, Sem.run_pure]
  simp only [pureA] at h
  generalize f a = fa at h hv
  generalize hd : e x = d at hv
  split at h
  · cases h; cases hv; obtain ⟨el, ht⟩ := ht
    exact ⟨_, key _ _ hd (by simp [Builtin.len_, run_und ht, goInt]), VRel.int _ _⟩
  · cases h; cases hv; obtain ⟨el, ht⟩ := ht
    exact ⟨_, key _ _ hd (by simp [Builtin.len_, run_und ht, goInt]), VRel.int _ _⟩
  · cases h; obtain ⟨el, ht⟩ := ht
    cases hv <;> exact ⟨_, key _ _ hd (by simp [Builtin.len_, run_und ht, goInt]), VRel.int _ _⟩
  · cases h; cases hv
    have ht : P.underlying t = some .string := ht
    exact ⟨_, key _ _ hd (by simp [Builtin.len_, run_und ht, goInt]), VRel.int _ _⟩
  · cases h; cases hv; obtain ⟨kt, el, ht⟩ := ht
    exact ⟨_, key _ _ hd (by simp [Builtin.len_, run_und ht, goInt]), VRel.int _ _⟩
  · rename_i id
    split at h
    · rename_i es hes
      cases h
      obtain ⟨kt, el, ht⟩ := ht
      cases hv with
      | mp hid =>
        obtain ⟨ents, clock, g1, g2, g3⟩ := map_rel hR hid hes
        rw [← g2]
        exact ⟨_, key _ _ hd (by simp [Builtin.len_, run_und ht, goInt, run_getMap g1]), VRel.int _ _⟩
    · cases h
  · cases h

theorem val_lenc {c : Call} {t el : TypeId} {x : Operand} {n : Nat} (hop : o.op = .call c) (hc : c.callee = .builtin .len) (hts : c.argTypes.toList = [t]) (has : c.args.toList = [x]) (ht : P.underlying t = some (.array n el)) (h : pureA f H (.lenc n) = some v) : Val P M ρ w e o v := by
  simp only [pureA] at h
  cases h
  refine ⟨_, run_call_builtin hop hc (toList_one hts) (d := #[e x]) (by rw [toList_one has]; simp) w fun cs => ?_, VRel.int _ _⟩
  simp [builtin, Builtin.len_, run_und ht, goInt]

theorem val_cap {c : Call} {t el : TypeId} {x : Operand} {a : AOpd} (hr : Reads M ρ f e) (hop : o.op = .call c) (hc : c.callee = .builtin .cap) (hts : c.argTypes.toList = [t]) (has : c.args.toList = [x]) (hx : trO x = some a)
    (ht : P.underlying t = some (.slice el)) (h : pureA f H (.cap a) = some v) : Val P M ρ w e o v := by
  have hv := hr _ _ hx
  have key : ∀ d r, e x = d → (Builtin.cap_ #[t] o.type #[d]).run P w = .ok r w → (execOp e o).run P w = .ok (.value r) w := by
    intro d r hd hrun
    refine run_call_builtin hop hc (toList_one hts) (d := #[d]) (by rw [toList_one has]; simp [hd]) w fun cs => ?_
    simp only [builtin, Sem.run_bind, hrun, Result.andThen_ok, Sem.run_pure]
  simp only [pureA] at h
  generalize f a = fa at h hv
  generalize hd : e x = d at hv
  split at h
  · cases h; cases hv
    exact ⟨_, key _ _ hd (by simp [Builtin.cap_, run_und ht, goInt]), VRel.int _ _⟩
  · cases h
    cases hv with
    | sl off len lo cap ex e' hid hlo hex hsz =>
      have := hex rfl
      subst this
      exact ⟨_, key _ _ hd (by simp [Builtin.cap_, run_und ht, goInt]), VRel.int _ _⟩
  · cases h
    cases hv with
    | vec0 len cap ex a hex hl =>
      have := hex rfl
      subst this
      exact ⟨_, key _ _ hd (by simp [Builtin.cap_, run_und ht, goInt]), VRel.int _ _⟩
    | vec len cap ex o' hm hs hp hc' hex hl =>
      have := hex rfl
      subst this
      exact ⟨_, key _ _ hd (by simp [Builtin.cap_, run_und ht, goInt]), VRel.int _ _⟩
  · cases h

theorem mm_rel (mx : Bool) : ∀ {xs : List AV} {ds : List Value} {x z : AV} {d : Value}, mmA mx x xs = some z → VRel M ρ x d → xs.length = ds.length → (∀ i (h1 : i < xs.length) (h2 : i < ds.length), VRel M ρ xs[i] ds[i]) → 
    ∃ r, (ds.foldlM (if mx then Builtin.max2 else Builtin.min2) d).run P w = .ok r w ∧ VRel M ρ z r := by
  intro xs
  induction xs with
  | nil => intro ds x z d h hx hl _; cases h; cases ds <;> simp at hl; exact ⟨d, rfl, hx⟩
  | cons y xs ih =>
    intro ds x z d h hx hl hr
    cases ds with
    | nil => simp at hl
    | cons d' ds =>
      simp only [mmA] at h
      split at h
      · rename_i q hq
        unfold mm2 at hq
        split at hq
        · rename_i k n k' n'
          have h0 : d' = .int k' n' := (hr 0 (by simp) (by simp)).inv_int
          have hx' := hx.inv_int
          split at hq
          · rename_i hk
            subst hk
            cases hq
            obtain ⟨r, e1, e2⟩ := ih (ds := ds) h (VRel.int _ _) (by simpa using hl) (fun i g1 g2 => hr (i + 1) (by simpa using g1) (by simpa using g2))
            refine ⟨r, ?_, e2⟩
            subst hx' h0
            rw [List.foldlM_cons, Sem.run_bind]
            cases mx
            · simpa [Builtin.min2] using e1
            · simpa [Builtin.max2] using e1
          · cases hq
        · cases hq
      · cases h

theorem val_minmax {c : Call} {mx : Bool} {as : List AOpd} (hr : Reads M ρ f e) (hop : o.op = .call c) (hc : c.callee = .builtin (if mx then .max else .min)) (has : trOs c.args.toList = some as) (h : pureA f H (.minmax mx as) = some v) : Val P M ρ w e o v := by
  have hl := trOs_len has
  have hrel := trOs_rel hr has
  simp only [pureA] at h
  generalize hds : c.args.toList = xs at has hl hrel
  have hargs : c.args.map e = (xs.map e).toArray := by rw [← Array.toList_inj]; simp [hds]
  cases as with
  | nil => simp at h
  | cons a as =>
    cases xs with
    | nil => simp at hl
    | cons x xs =>
      simp only [List.map_cons] at h
      split at h
      · have h00 : VRel M ρ (f a) (e x) := hrel 0 (by simp) (by simp)
        obtain ⟨r, e1, e2⟩ := mm_rel (P := P) (w := w) (M := M) (ρ := ρ) mx (ds := xs.map e) h h00 (by simp at hl ⊢; exact hl) (fun i h1 h2 => by
          have := hrel (i + 1) (by simp at h1 ⊢; exact h1) (by simp at h2 ⊢; exact h2)
          simpa using this)
        refine ⟨r, run_call_builtin hop hc rfl hargs w fun cs => ?_, e2⟩
        cases mx
        · simp only [Bool.false_eq_true, if_false, builtin, Builtin.min_, List.map_cons, Sem.run_bind] at e1 ⊢
          rw [e1]; rfl
        · simp only [if_true, builtin, Builtin.max_, List.map_cons, Sem.run_bind] at e1 ⊢
          rw [e1]; rfl
      · cases h
end Go.Mach
