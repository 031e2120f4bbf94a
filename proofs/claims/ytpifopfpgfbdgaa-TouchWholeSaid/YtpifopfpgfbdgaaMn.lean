/-
  A function's code, translated; the evaluator's answer is the program's. By an AI agent.
-/
import Derived.Test.YtpifopfpgfbdgaaMm
import Derived.Scope
set_option linter.unusedSimpArgs false
set_option linter.unusedVariables false
namespace Go.Mach

def trRegion (P : Program) (N : Nat) (ops : Array Oper) (draw : Bool) : Option ACode :=
  if draw then
    match trOpers P N ops (fun _ => false) 0 ops.toList with
    | none => none
    | some as0 =>
      let bs := befsGo ops.toList []
      let hs := as0.map fun a => heapOp a.op
      match trOpers P N ops (fun i => hs.getD i false && soloOf bs hs i) 0 ops.toList with
      | some as => if drawOK ops as && P.follows .mixedOrders then some (.ops as) else none
      | none => none
  else match trOpers P N ops (fun _ => true) 0 ops.toList with
    | some as => some (.ops as)
    | none => none

/-- A region that ends in a panic: no run of the machine goes through it. -/
def panics (ops : Array Oper) : Bool := ops.toList.any fun o => match o.op with
  | .panic _ => true
  | _ => false

def trCode (P : Program) (N : Nat) : Code → Option ACode
  | .skip => some .skip
  | .label _ => some .skip
  | .region _ ops draw => if panics ops then some (.cond (.c .nilp) .skip .skip) else trRegion P N ops draw
  | .seq a b => match trCode P N a, trCode P N b with
    | some x, some y => some (.seq x y)
    | _, _ => none
  | .cond c a b => match trO c, trCode P N a, trCode P N b with
    | some c, some x, some y => some (.cond c x y)
    | _, _, _ => none
  | .block id c => match trCode P N c with
    | some x => some (.block id x)
    | none => none
  | .loop c => match trCode P N c with
    | some x => some (.loop x)
    | none => none
  | .exit id => some (.exit id)
  | .ret => some .ret
  | .scope c => trCode P N c
  | _ => none

def Ex.to : Ex → Exit
  | .nrm => .normal
  | .exit i => .exit i
  | .ret => .ret

theorem region_sound {P : Program} {call : CallFn} {N : Nat} (hcall : CallOK P call) (hca : CallA call) {id : Nat} {ops : Array Oper} {draw : Bool} {as : List AOper} (ht : trRegion P N ops draw = some (.ops as)) {M : Mem} {ρ : Rho} {σ : Sig} {H : Heap} {a : Act} {w : World} {k : Sig → Heap → R} {r : AV × Heap} {Q : Exit → Act → World → Prop}
    (hS : SRel M ρ N σ H a w) (h : evalOps call as k σ H = some r)
    (hQ : ∀ M' ρ' σ' H' a' w', Step M ρ H w M' ρ' H' w' → SRel M' ρ' N σ' H' a' w' → k σ' H' = some r → Q .normal a' w') : (Code.region id ops draw).wp P Q a w := by
  unfold trRegion at ht
  cases draw with
  | false =>
    simp only [Bool.false_eq_true, if_false] at ht
    split at ht
    · rename_i as' has
      cases ht
      apply wp_region
      rw [List.range_eq_range', ← Array.length_toList]
      exact ops_sound hcall ops.toList 0 has (fun j => by simp) h hS hQ
    · cases ht
  | true =>
    simp only [if_true] at ht
    split at ht
    · cases ht
    · rename_i as0 has0
      split at ht
      · rename_i as' has
        split at ht
        · rename_i hd
          cases ht
          simp only [Bool.and_eq_true] at hd
          obtain ⟨hl, hget⟩ := trOpers_get _ _ has
          have hlen : as.length = ops.size := by rw [hl, Array.length_toList]
          have hdp := drawOK_sound hlen hd.1
          obtain ⟨σs, Hs, e1, e2, htr, hk⟩ := trace_of as σ H h
          subst e1; subst e2
          apply wp_region_any hd.2
          have hdr := Step.drawn hS.rel (w.drawn + 1)
          have hs0 : ∀ i, (Array.replicate ops.size false).getD i false = false := fun i => by
            simp only [Array.getD_eq_getD_getElem?, Array.getElem?_replicate]
            split <;> rfl
          obtain ⟨c0, k1, k2, k3, k4⟩ := next_writer Hs (Array.replicate ops.size false) as.length as.length 0 (by omega)
          have hq : ∀ j, 0 ≤ j → j < c0 → ¬ writes Hs j := fun j h1 h2 => k4 j h1 h2 (hs0 j)
          refine draw_sound hcall hca (fun j x hx => ?_) hlen hdp htr hdr.rel hS.tmp hS.size (fun M' ρ' a' w' hs hS' => hQ M' ρ' _ _ a' w' (hdr.trans hs) hS' hk) ops.size _ c0 a _ M ρ ⟨?_, ?_, k2, k3, fun j hj _ => hq j (Nat.zero_le _) hj, ?_, ?_, ?_, ?_, hS.size, hS.defers⟩ (by omega)
          · obtain ⟨o, h1, h2⟩ := hget j x hx
            exact ⟨o, _, by simpa using h1, h2⟩
          · simp [hlen]
          · intro i o hi
            rw [hs0 i] at hi; cases hi
          · exact (Step.refl hdr.rel).toW.later (trace_le hca htr (Nat.zero_le _) k2) (quiet_range hca htr (Nat.zero_le _) k2 hq) hdr.rel.dom
          · intro i hi
            constructor
            · rintro ⟨p, hp⟩
              have := hS.rel.dom i p hp; omega
            · rintro ⟨j, hj, _⟩
              rw [hs0 j] at hj; cases hj
          · intro t p hp hw
            have : σs p t = σs 0 t := trace_slot htr t (Nat.zero_le _) hp fun j x _ h2 hx hxt => by
              have := (hw j x hx hxt).2 h2
              rw [hs0 j] at this; cases this
            rw [this]
            exact hS.tmp t
          · intro t; exact ⟨_, hS.tmp t⟩
        · cases ht
      · cases ht

theorem code_sound {P : Program} {call : CallFn} {N : Nat} (hcall : CallOK P call) (hca : CallA call) {n : Nat} {r : AV × Heap} : ∀ (c : Code) (ac : ACode), trCode P N c = some ac → ∀ {M : Mem} {ρ : Rho} {σ : Sig} {H : Heap} {a : Act} {w : World} {k : KF} {Q : Exit → Act → World → Prop},
    SRel M ρ N σ H a w → evalK call n ac k σ H = some r →
    (∀ ex M' ρ' σ' H' a' w', Step M ρ H w M' ρ' H' w' → SRel M' ρ' N σ' H' a' w' → k ex σ' H' = some r → Q ex.to a' w') → c.wp P Q a w := by
  intro c
  induction c with
  | skip =>
    intro ac ht M ρ σ H a w k Q hS h hQ
    cases ht
    exact wp_skip (hQ .nrm M ρ σ H a w (Step.refl hS.rel) hS h)
  | label l =>
    intro ac ht M ρ σ H a w k Q hS h hQ
    cases ht
    exact wp_label (hQ .nrm M ρ σ H a w (Step.refl hS.rel) hS h)
  | exit id =>
    intro ac ht M ρ σ H a w k Q hS h hQ
    cases ht
    exact wp_exit (hQ (.exit id) M ρ σ H a w (Step.refl hS.rel) hS h)
  | ret =>
    intro ac ht M ρ σ H a w k Q hS h hQ
    cases ht
    exact wp_ret (hQ .ret M ρ σ H a w (Step.refl hS.rel) hS h)
  | region id ops draw =>
    intro ac ht M ρ σ H a w k Q hS h hQ
    simp only [trCode] at ht
    split at ht
    · cases ht; cases h
    have : ∃ as, ac = .ops as := by
      simp only [trRegion] at ht
      (repeat' split at ht) <;> cases ht <;> exact ⟨_, rfl⟩
    obtain ⟨as, rfl⟩ := this
    exact region_sound hcall hca (k := k .nrm) (r := r) ht hS h fun M' ρ' σ' H' a' w' hs hS' hk => hQ .nrm M' ρ' σ' H' a' w' hs hS' hk
  | seq x y ihx ihy =>
    intro ac ht M ρ σ H a w k Q hS h hQ
    simp only [trCode] at ht
    split at ht
    · rename_i ax ay hx hy
      cases ht
      apply wp_seq
      simp only [evalK] at h
      refine ihx ax hx hS h fun ex M' ρ' σ' H' a' w' hs hS' hk => ?_
      cases ex with
      | nrm => exact ihy ay hy hS' hk fun ex M'' ρ'' σ'' H'' a'' w'' hs' hS'' hk' => hQ ex M'' ρ'' σ'' H'' a'' w'' (hs.trans hs') hS'' hk'
      | exit i => exact hQ (.exit i) M' ρ' σ' H' a' w' hs hS' hk
      | ret => exact hQ .ret M' ρ' σ' H' a' w' hs hS' hk
    · cases ht
  | cond cd x y ihx ihy =>
    intro ac ht M ρ σ H a w k Q hS h hQ
    simp only [trCode] at ht
    split at ht
    · rename_i acd ax ay hc hx hy
      cases ht
      simp only [evalK] at h
      have hcv := reads_of hS.tmp _ _ hc
      split at h
      · rename_i t hb
        rw [hb] at hcv
        have hbv := hcv.inv_bool
        refine wp_cond hbv ?_
        cases t with
        | true => exact ihx ax hx hS h hQ
        | false => exact ihy ay hy hS h hQ
      · cases h
    · cases ht
  | block id x ihx =>
    intro ac ht M ρ σ H a w k Q hS h hQ
    simp only [trCode] at ht
    split at ht
    · rename_i ax hx
      cases ht
      apply wp_block
      simp only [evalK] at h
      refine ihx ax hx hS h fun ex M' ρ' σ' H' a' w' hs hS' hk => ?_
      cases ex with
      | nrm => exact hQ .nrm M' ρ' σ' H' a' w' hs hS' hk
      | ret => exact hQ .ret M' ρ' σ' H' a' w' hs hS' hk
      | exit i =>
        simp only [Ex.to, Exit.inBlock]
        by_cases e : i = id
        · rw [if_pos e]
          simp only [e, if_true] at hk
          exact hQ .nrm M' ρ' σ' H' a' w' hs hS' hk
        · rw [if_neg e]
          simp only [e, if_false] at hk
          exact hQ (.exit i) M' ρ' σ' H' a' w' hs hS' hk
    · cases ht
  | loop x ihx =>
    intro ac ht M ρ σ H a w k Q hS h hQ
    simp only [trCode] at ht
    split at ht
    · rename_i ax hx
      cases ht
      simp only [evalK] at h
      refine wp_loop_rounds n ?_
      have key : ∀ (m : Nat) {M1 : Mem} {ρ1 : Rho} {σ1 : Sig} {H1 : Heap} {a1 : Act} {w1 : World}, Step M ρ H w M1 ρ1 H1 w1 → SRel M1 ρ1 N σ1 H1 a1 w1 → loopK (evalK call n ax) m k σ1 H1 = some r → Code.rounds P x Q m a1 w1 := by
        intro m
        induction m with
        | zero => intro M1 ρ1 σ1 H1 a1 w1 _ _ h1; cases h1
        | succ m ih =>
          intro M1 ρ1 σ1 H1 a1 w1 hs1 hS1 h1
          simp only [loopK] at h1
          rw [rounds_succ]
          refine ihx ax hx hS1 h1 fun ex M' ρ' σ' H' a' w' hs hS' hk => ?_
          cases ex with
          | nrm => exact ih (hs1.trans hs) hS' hk
          | exit i => exact hQ (.exit i) M' ρ' σ' H' a' w' (hs1.trans hs) hS' hk
          | ret => exact hQ .ret M' ρ' σ' H' a' w' (hs1.trans hs) hS' hk
      exact key n (Step.refl hS.rel) hS h
    · cases ht
  | scope x ihx =>
    intro ac ht M ρ σ H a w k Q hS h hQ
    simp only [trCode] at ht
    refine wp_scope_straight (ihx ac ht hS h fun ex M' ρ' σ' H' a' w' hs hS' hk => ?_)
    have := hQ ex M' ρ' σ' H' a' w' hs hS' hk
    cases ex <;> exact this
  | _ => intro ac ht; cases ht
end Go.Mach
