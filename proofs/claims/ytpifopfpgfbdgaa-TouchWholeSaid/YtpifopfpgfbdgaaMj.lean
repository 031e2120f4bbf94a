/-
  One operation, calls included; a row of operations in the order of the text. By an AI agent.
-/
import Derived.Test.YtpifopfpgfbdgaaMi
import Derived.LoopN
set_option linter.unusedSimpArgs false
set_option linter.unusedVariables false
namespace Go.Mach
variable {P : Program} {M : Mem} {ρ : Rho} {H H' : Heap} {w : World} {v : AV}

/-- The machine's calls are the program's. -/
def CallOK (P : Program) (call : CallFn) : Prop := ∀ g args H v H', call g args H = some (v, H') →
  (∃ fn, P.funcs[g]? = some fn ∧ (fn.name == "runtime.NumGoroutine") = false ∧ fn.body.isSome = true) ∧
  ∀ M ρ w (args' : Array Value), Rel M ρ H w → args'.size = args.length → (∀ i (h1 : i < args.length) (h2 : i < args'.size), VRel M ρ args[i] args'[i]) →
    Calls P g args' w fun e w' => ∃ v' M' ρ', e = .returned v' ∧ Step M ρ H w M' ρ' H' w' ∧ VRel M' ρ' v v'

/-- What a slot of the frame holds. -/
def TRel (M : Mem) (ρ : Rho) (σ : Sig) (tmps : Array Value) : Prop := ∀ t, VRel M ρ (σ t) (tmps.getD t undef)

structure SRel (M : Mem) (ρ : Rho) (N : Nat) (σ : Sig) (H : Heap) (a : Act) (w : World) : Prop where
  rel : Rel M ρ H w
  tmp : TRel M ρ σ a.tmps
  size : a.tmps.size = N
  defers : a.defers = []

theorem undef_rel : VRel M ρ undefA undef := .tup rfl fun i h => absurd h (by simp)

theorem TRel.mono {M' : Mem} {ρ' : Rho} {σ : Sig} {tmps : Array Value} (h : TRel M ρ σ tmps) (hM : ∀ b o, M b = some o → M' b = some o) (hρ : ∀ i p, ρ i = some p → ρ' i = some p) : TRel M' ρ' σ tmps :=
  fun t => (h t).mono hM hρ

theorem TRel.put {σ : Sig} {a : Act} (h : TRel M ρ σ a.tmps) {d : Option Nat} (hd : ∀ t, d = some t → t < a.tmps.size) {v : AV} {v' : Value} (hv : VRel M ρ v v') : TRel M ρ (putS σ d v) (a.put d v').tmps := by
  intro t
  cases d with
  | none => exact h t
  | some d =>
    have hlt := hd d rfl
    simp only [putS, Act.put, Array.getD_eq_getD_getElem?, Array.getElem?_setIfInBounds]
    by_cases e : t = d
    · subst e; rw [upd_same, if_pos rfl, if_pos hlt]; exact hv
    · rw [upd_ne _ _ e, if_neg (fun h => e h.symm)]
      have := h t
      rwa [Array.getD_eq_getD_getElem?] at this

theorem put_size (a : Act) (d : Option Nat) (v : Value) : (a.put d v).tmps.size = a.tmps.size ∧ (a.put d v).defers = a.defers := by
  cases d <;> simp [Act.put]

theorem reads_of {σ : Sig} {a : Act} (h : TRel M ρ σ a.tmps) : Reads M ρ (ev σ) a.eval := by
  intro x ax hx
  cases x with
  | tmp t => cases hx; exact h t
  | const d =>
    simp only [trO] at hx
    split at hx
    · cases hx; exact trV_rel (by assumption)
    · cases hx
  | global g => cases hx
  | func g =>
    cases hx
    exact .fn g rfl rfl (fun i h => absurd h (by simp)) (fun i h => absurd h (by simp))

theorem call_op {o : Oper} {ao : AOp} (ht : trOp P o.op = some ao) (hc : isCall ao = true) : ∃ c g ag aargs, o.op = .call c ∧ c.callee = .value g ∧ ao = .call ag aargs ∧ trO g = some ag ∧ trOs c.args.toList = some aargs := by
  have nb : ∀ {op : BinOp} {t : TypeId} {a b : AOpd}, trBin P op t a b = some ao → False := by
    intro op t a b h
    have := bin_pure h
    cases ao <;> simp [isCall] at hc
    simp [isPure] at this
  have nt : ∀ {b : Builtin} {ts : List TypeId} {as : List AOpd}, trBuiltin P b ts as = some ao → False := by
    intro b ts as h
    unfold trBuiltin at h
    (repeat' split at h) <;> cases h <;> cases hc
  cases hop : o.op <;> rw [hop] at ht <;> simp only [trOp] at ht <;> try (cases ht; done)
  case call c =>
    split at ht
    · rename_i as has
      split at ht
      · rename_i g hg
        split at ht
        · rename_i ag hag; cases ht; exact ⟨c, g, ag, as, rfl, hg, rfl, hag, has⟩
        · cases ht
      · exact (nt ht).elim
      · cases ht
    · cases ht
  case binOp =>
    split at ht
    · exact (nb ht).elim
    · cases ht
  case makeFunc fn fs cs =>
    cases fn <;> simp only at ht <;> try (cases ht; done)
    split at ht <;> cases ht
    cases hc
  all_goals ((repeat' split at ht) <;> cases ht <;> cases hc)

/-- One operation; 'e' may differ from the frame's slots where the operation does not look. -/
theorem oper_sound' {call : CallFn} (hcall : CallOK P call) {o : Oper} {ao : AOp} {a : Act} {σ : Sig} {e : Operand → Value} (he : execOp a.eval o = execOp e o) (ht : trOp P o.op = some ao) (hR : Rel M ρ H w) (hr : Reads M ρ (ev σ) e) (h : stepA call (ev σ) H ao = some (v, H')) {next : Act → World → Prop} {Q : Exit → Act → World → Prop}
    (hn : ∀ M' ρ' v' w', Step M ρ H w M' ρ' H' w' → VRel M' ρ' v v' → next (a.put o.dst v') w') : o.wp P a w next Q := by
  unfold Oper.wp
  rw [he]
  cases hc : isCall ao with
  | false =>
    have h' : (if isPure ao then (match pureA (ev σ) H ao with | some v => some (v, H) | none => none) else heapA (ev σ) H ao) = some (v, H') := by
      unfold stepA at h
      split at h
      · cases hc
      · exact h
    obtain ⟨M', ρ', w', hs, hrun | hrun⟩ := op_ok hR hr ht hc h'
    · obtain ⟨v', h1, h2⟩ := hrun
      rw [h1]
      exact hn M' ρ' v' w' hs h2
    · obtain ⟨h1, h2⟩ := hrun
      rw [h1]
      subst h2
      exact hn M' ρ' undef w' hs undef_rel
  | true =>
    obtain ⟨c, g, ag, aargs, hop, hg, rfl, htg, hta⟩ := call_op ht hc
    simp only [stepA] at h
    have hgv := hr _ _ htg
    split at h
    · rename_i n first caps hf
      rw [hf] at hgv
      obtain ⟨⟨fn, hfn, hname, hbody⟩, hcalls⟩ := hcall _ _ _ _ _ h
      generalize hd : e g = d at hgv
      cases hgv with
      | fn n l1 l2 hf1 hc1 =>
        rename_i fs' cs'
        have hlen : aargs.length = c.args.size := by rw [trOs_len hta, Array.length_toList]
        have hargs := trOs_rel hr hta
        have hrun : (execOp e o).run P w = .ok (.enter n (fs' ++ c.args.map e ++ cs')) w := by
          simp only [execOp, hop, resolve, hg, hd, Deferred.ofValue, Sem.run_bind, Sem.run_pure, Result.andThen_ok, invoke, callFunc, run_program, hfn, hname, Bool.false_eq_true, if_false]
          cases hb : fn.body with
          | none => rw [hb] at hbody; simp at hbody
          | some b => simp
        rw [hrun]
        refine Calls.mono (hcalls M ρ w _ hR ?_ ?_) ?_
        · simp [l1, l2, hlen]
        · intro i h1 h2
          simp only [List.length_append, List.length_map] at h1
          simp only [List.append_assoc, Array.append_assoc]
          by_cases i1 : i < first.length
          · rw [List.getElem_append_left i1, Array.getElem_append_left (by omega)]
            exact hf1 i i1 (by omega)
          · rw [List.getElem_append_right (by omega), Array.getElem_append_right (by omega)]
            by_cases i2 : i - first.length < aargs.length
            · rw [List.getElem_append_left (by simpa using i2), Array.getElem_append_left (by simp; omega)]
              have := hargs (i - first.length) i2 (by have h9 : c.args.toList.length = c.args.size := Array.length_toList; omega)
              simpa [l1] using this
            · rw [List.getElem_append_right (by rw [List.length_map]; omega), Array.getElem_append_right (by rw [Array.size_map]; omega)]
              have e1 : i - first.length - aargs.length < caps.length := by omega
              have := hc1 (i - first.length - aargs.length) e1 (by omega)
              simpa [l1, hlen] using this
        · rintro _ w' ⟨v', M', ρ', rfl, hs, hv⟩
          exact hn M' ρ' v' w' hs hv
    · cases h

theorem oper_sound {call : CallFn} (hcall : CallOK P call) {o : Oper} {ao : AOp} {a : Act} {σ : Sig} (ht : trOp P o.op = some ao) (hR : Rel M ρ H w) (hr : Reads M ρ (ev σ) a.eval) (h : stepA call (ev σ) H ao = some (v, H')) {next : Act → World → Prop} {Q : Exit → Act → World → Prop}
    (hn : ∀ M' ρ' v' w', Step M ρ H w M' ρ' H' w' → VRel M' ρ' v v' → next (a.put o.dst v') w') : o.wp P a w next Q :=
  oper_sound' hcall rfl ht hR hr h hn

/-! ### Operations in the order of the text -/
def trGuard (ops : Array Oper) : Option (Nat × Bool) → Option (Option (Nat × Bool))
  | none => some none
  | some (j, want) => match (ops[j]?).bind (·.dst) with
    | some t => some (some (t, want))
    | none => none

def dstOk (N : Nat) : Option Nat → Bool
  | none => true
  | some t => decide (t < N)

def trOper (P : Program) (N : Nat) (ops : Array Oper) (solo : Bool) (o : Oper) : Option AOper :=
  match trOp P o.op, trGuard ops o.guard with
  | some a, some g => if dstOk N o.dst then some ⟨o.dst, a, g, solo⟩ else none
  | _, _ => none

def trOpers (P : Program) (N : Nat) (ops : Array Oper) (solo : Nat → Bool) : Nat → List Oper → Option (List AOper)
  | _, [] => some []
  | i, o :: os => match trOper P N ops (solo i) o, trOpers P N ops solo (i + 1) os with
    | some a, some as => some (a :: as)
    | _, _ => none

theorem trOper_parts {N : Nat} {ops : Array Oper} {s : Bool} {o : Oper} {ao : AOper} (h : trOper P N ops s o = some ao) : trOp P o.op = some ao.op ∧ trGuard ops o.guard = some ao.guard ∧ ao.dst = o.dst ∧ ao.solo = s ∧ ∀ t, o.dst = some t → t < N := by
  unfold trOper at h
  split at h
  · rename_i a g h1 h2
    split at h
    · rename_i hd
      cases h
      refine ⟨h1, h2, rfl, rfl, fun t ht => ?_⟩
      rw [ht] at hd
      simpa [dstOk] using hd
    · cases h
  · cases h

theorem wanted_rel {σ : Sig} {a : Act} (h : TRel M ρ σ a.tmps) {ops : Array Oper} {o : Oper} {g : Option (Nat × Bool)} (hg : trGuard ops o.guard = some g) : Region.wanted o (yielded ops a.tmps) = wantedA σ g := by
  unfold trGuard at hg
  split at hg
  · rename_i e; cases hg; simp [Region.wanted, e, wantedA]
  · rename_i j want e
    split at hg
    · rename_i t ht
      cases hg
      have ht' := h t
      simp only [Region.wanted, e, yielded, ht, Option.bind_some, wantedA]
      rw [Array.getD_eq_getD_getElem?] at ht'
      cases hv : σ t <;> rw [hv] at ht'
      case bool b =>
        have := ht'.inv_bool
        cases hx : a.tmps[t]? with
        | none => rw [hx] at this; cases this
        | some d => rw [hx] at this; simp at this; subst this; simp
      all_goals
        cases hx : a.tmps[t]? with
        | none => simp
        | some d =>
          rw [hx] at ht'
          simp at ht'
          cases ht' <;> simp
    · cases hg

theorem ops_sound {call : CallFn} (hcall : CallOK P call) {N : Nat} {ops : Array Oper} {solo : Nat → Bool} {Q : Exit → Act → World → Prop} {k : Sig → Heap → R} {r : AV × Heap} : ∀ (os : List Oper) (i : Nat) {as : List AOper} {M : Mem} {ρ : Rho} {σ : Sig} {H : Heap} {a : Act} {w : World},
    trOpers P N ops solo i os = some as → (∀ j, os[j]? = ops[i + j]?) → evalOps call as k σ H = some r → SRel M ρ N σ H a w →
    (∀ M' ρ' σ' H' a' w', Step M ρ H w M' ρ' H' w' → SRel M' ρ' N σ' H' a' w' → k σ' H' = some r → Q .normal a' w') → wpOps P ops Q (List.range' i os.length) a w := by
  intro os
  induction os with
  | nil =>
    intro i as M ρ σ H a w ht hos h hS hk
    cases ht
    exact hk M ρ σ H a w (Step.refl hS.rel) hS h
  | cons o os ih =>
    intro i as M ρ σ H a w ht hos h hS hk
    simp only [trOpers] at ht
    split at ht
    · rename_i ao as' hao has'
      cases ht
      obtain ⟨h1, h2, h3, _, h5⟩ := trOper_parts hao
      have hoi : ops[i]? = some o := by have := hos 0; simpa using this.symm
      have hos' : ∀ j, os[j]? = ops[i + 1 + j]? := fun j => by
        have := hos (j + 1)
        rw [List.getElem?_cons_succ] at this
        rw [this]; congr 1; omega
      simp only [List.length_cons, List.range'_succ, wpOps, hoi]
      rw [wanted_rel hS.tmp h2]
      simp only [evalOps] at h
      split at h
      · rename_i hw
        rw [if_pos hw]
        left
        split at h
        · rename_i v H1 hst
          split at h
          · refine oper_sound hcall h1 hS.rel (reads_of hS.tmp) hst ?_
            intro M1 ρ1 v' w1 hs hv
            have hd : ∀ t, o.dst = some t → t < a.tmps.size := fun t ht => by rw [hS.size]; exact h5 t ht
            refine ih (i + 1) has' hos' h ⟨hs.rel, ?_, (put_size a _ _).1.trans hS.size, (put_size a _ _).2.trans hS.defers⟩ ?_
            · rw [h3]; exact (hS.tmp.mono hs.mem hs.rho).put hd hv
            · intro M' ρ' σ' H' a' w' hs' hS' hk'
              exact hk M' ρ' σ' H' a' w' (hs.trans hs') hS' hk'
          · cases h
        · cases h
      · rename_i hw
        rw [if_neg hw]
        have hd : ∀ t, o.dst = some t → t < a.tmps.size := fun t ht => by rw [hS.size]; exact h5 t ht
        refine ih (i + 1) has' hos' h ⟨hS.rel, ?_, (put_size a _ _).1.trans hS.size, (put_size a _ _).2.trans hS.defers⟩ hk
        rw [h3]; exact hS.tmp.put hd undef_rel
    · cases ht
end Go.Mach
