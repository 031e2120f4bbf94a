/-
  Calls: the machine's answer is the program's. By an AI agent.
-/
import Derived.Test.YtpifopfpgfbdgaaMo
set_option linter.unusedSimpArgs false
set_option linter.unusedVariables false
namespace Go.Mach

theorem below_eq {M M' : Mem} {ρ ρ2 : Rho} {H H3 : Heap} {w w2 : World} (hR : Rel M ρ H w) (old : ∀ i, i < H.next → ρ2 i = ρ i) : ρ2.below H.next = ρ := by
  funext i
  unfold Rho.below
  split
  · exact old i (by assumption)
  · cases h : ρ i with
    | none => rfl
    | some p => have := hR.dom i p h; omega

theorem ObjRel.both {M Mg : Mem} {ρ ρg : Rho} {w wg : World} {b sz b' sz' n : Nat} {o : AObj} (ho : ObjRel M ρ w b sz o) (hog : ObjRel Mg ρg wg b' sz' o) (hd : ∀ i p, ρg i = some p → i < n) : ObjRel M (ρ.below n) w b sz o := by
  cases o with
  | dead => trivial
  | cells cs rel =>
    obtain ⟨g1, c, T, mk, g2, g3, g4, g5, g6⟩ := ho
    obtain ⟨_, c', T', mk', _, _, k4, k5, k6⟩ := hog
    refine ⟨g1, c, T, mk, g2, g3, g4, g5, fun j q1 q2 => ⟨(g6 j q1 q2).1, ?_⟩⟩
    exact (g6 j q1 q2).2.both (k6 j q1 (by omega)).2 hd
  | frz cs => exact ho
  | map es =>
    obtain ⟨g1, ents, clock, g2, g3, g4⟩ := ho
    obtain ⟨_, ents', clock', _, k3, k4⟩ := hog
    refine ⟨g1, ents, clock, g2, g3, fun j q1 q2 => ?_⟩
    have a1 := k4 j q1 (by omega)
    exact ⟨(g4 j q1 q2).1.both a1.1 hd, (g4 j q1 q2).2.both a1.2 hd⟩

theorem ObjRel.cut {M : Mem} {ρ : Rho} {w : World} {b sz n : Nat} {o : AObj} (h : ObjRel M ρ w b sz o) (hn : o.noNew n = true) : ObjRel M (ρ.below n) w b sz (o.clean n) := by
  cases o with
  | dead => trivial
  | cells cs rel =>
    obtain ⟨g1, c, T, mk, g2, g3, g4, g5, g6⟩ := h
    refine ⟨g1, c, T, mk, g2, g3, g4, g5, fun j q1 q2 => ⟨(g6 j q1 q2).1, (g6 j q1 q2).2.cut (noNew_all hn q1)⟩⟩
  | frz cs => exact h
  | map es =>
    obtain ⟨g1, ents, clock, g2, g3, g4⟩ := h
    refine ⟨g1, ents, clock, g2, g3, fun j q1 q2 => ?_⟩
    simp only [AObj.noNew, List.all_eq_true, Bool.and_eq_true] at hn
    have := hn _ (List.getElem_mem q1)
    exact ⟨(g4 j q1 q2).1.cut this.1, (g4 j q1 q2).2.cut this.2⟩

theorem clean_live {o : AObj} {n : Nat} : (o.clean n).live ↔ o.live := by
  cases o <;> simp [AObj.clean, AObj.live]

theorem clean_rel {o : AObj} {n j : Nat} (h : o.relOf = some j) (hj : j < n) : (o.clean n).relOf = some j := by
  cases o <;> simp only [AObj.relOf, AObj.clean] at h ⊢ <;> try (exact h)
  rw [h]; simp [hj]

theorem unrel_obj {M : Mem} {ρ : Rho} {w : World} {bl sz b : Nat} {v : AV} {obj : Nat → AObj} {i : Nat} (h : ObjRel M ρ w bl sz (obj i)) : ObjRel M ρ w bl sz (unrelO b v obj i) := by
  rcases unrel_cases b v obj with e | ⟨id, cs, r, ho, _, _, e⟩
  · rw [e]; exact h
  · rw [e]
    simp only [upd]
    by_cases h1 : i = id
    · subst h1; rw [if_pos rfl]; rw [ho] at h; exact h
    · rw [if_neg h1]
      by_cases h2 : i = r
      · rw [if_pos h2]; trivial
      · rw [if_neg h2]; exact h
theorem unrel_sep {b : Nat} {v : AV} {obj : Nat → AObj} {i j : Nat} (hij : i ≠ j) (h : (obj i).live → (obj j).live → (obj i).relOf = some j) (hi : (unrelO b v obj i).live) (hj : (unrelO b v obj j).live) : (unrelO b v obj i).relOf = some j := by
  rcases unrel_cases b v obj with e | ⟨id, cs, r, ho, _, _, e⟩
  · rw [e] at hi hj ⊢; exact h hi hj
  · rw [e] at hi hj ⊢
    simp only [upd] at hi hj ⊢
    have li : (obj i).live := by
      by_cases h1 : i = id
      · subst h1; rw [ho]; trivial
      · rw [if_neg h1] at hi
        by_cases h2 : i = r
        · rw [if_pos h2] at hi; exact hi.elim
        · rw [if_neg h2] at hi; exact hi
    have lj : (obj j).live := by
      by_cases h1 : j = id
      · subst h1; rw [ho]; trivial
      · rw [if_neg h1] at hj
        by_cases h2 : j = r
        · rw [if_pos h2] at hj; exact hj.elim
        · rw [if_neg h2] at hj; exact hj
    have key := h li lj
    by_cases h1 : i = id
    · subst h1
      rw [ho] at key
      have hr : r = j := by simpa [AObj.relOf] using key
      subst hr
      rw [if_neg (fun e => hij e.symm), if_pos rfl] at hj
      exact hj.elim
    · rw [if_neg h1] at hi ⊢
      by_cases h2 : i = r
      · rw [if_pos h2] at hi; exact hi.elim
      · rw [if_neg h2]; exact key

/-- The caller's heap behind a call. -/
theorem wrap_sound {M1 M3 : Mem} {ρ ρ2 : Rho} {H1 H3 : Heap} {w w2 : World} {v : AV} {d : Value} (hR : Rel M1 ρ H1 w) (s : Step M1 ρ H1.begin w M3 ρ2 H3 w2) (hv : VRel M3 ρ2 v d) :
    ∃ ρ', Step M1 ρ H1 w M3 ρ' (wrapA H1 v H3).2 w2 ∧ VRel M3 ρ' v d := by
  have hbe : ρ2.below H1.next = ρ := below_eq (M' := M1) (H3 := H1) (w2 := w) hR s.old
  obtain ⟨T0, t1, t2, t3, t4, t5, t6⟩ := s.trk
  have hT : ∀ i p, T0 i → ρ i = some p → i ∈ H3.ws ∧ i < H1.next := fun i p h hp => by
    have := hR.dom i p hp
    exact ⟨t1 i h this, this⟩
  have hn : H1.next ≤ H3.next := s.next
  have same : ∀ i, i < H1.next → i ∉ H3.ws → H3.obj i = H1.obj i := fun i hi hw => t3 i hi fun h => hw (t1 i h hi)
  have full : ∀ i, H1.next ≤ i → i < H3.next → ∃ p, ρ2 i = some p := s.full
  have t5' : ∀ b o, M3 b = some o → M1 b = none → w.heap.size ≤ b ∨ ∃ i p, (i ∈ H3.ws ∧ i < H1.next) ∧ ρ i = some p ∧ p.1 = b := fun b o h1 h2 => by
    rcases t5 b o h1 h2 with h | ⟨i, p, h3, h4, h5⟩
    · exact .inl h
    · exact .inr ⟨i, p, hT i p h3 h4, h4, h5⟩
  have t6' : ∀ i p, H1.next ≤ i → ρ2 i = some p → w.heap.size ≤ p.1 ∨ ∃ j q, (j ∈ H3.ws ∧ j < H1.next) ∧ ρ j = some q ∧ q.1 = p.1 := fun i p h1 h2 => by
    rcases t6 i p h1 h2 with h | ⟨j, q, h3, h4, h5⟩
    · exact .inl h
    · exact .inr ⟨j, q, hT j q h3 h4, h4, h5⟩
  have t4' : ∀ b, b < w.heap.size → (∀ i p, (i ∈ H3.ws ∧ i < H1.next) → ρ i = some p → p.1 ≠ b) → w2.heap[b]? = w.heap[b]? := fun b hb h => t4 b hb fun i p h1 h2 => h i p (hT i p h1 h2) h2
  have none_ge : ∀ i p, H1.next ≤ i → ρ i = some p → False := fun i p h1 h2 => by have := hR.dom i p h2; omega
  unfold wrapA
  split
  · rename_i hws
    have hno : ∀ i, ¬ (i ∈ H3.ws ∧ i < H1.next) := fun i h => by rw [hws] at h; exact absurd h.1 (by simp)
    have t4'' : ∀ b, b < w.heap.size → w2.heap[b]? = w.heap[b]? := fun b hb => t4' b hb fun i p h => (hno i h).elim
    split
    · rename_i hnn
      refine ⟨ρ, ⟨⟨s.rel.mem, hR.dom, fun i b sz hi => ?_, hR.sep⟩, s.mem, fun _ _ h => h, fun _ _ => rfl, fun i h1 h2 => by simp only at h2; omega, s.os, s.tape, s.output, s.size, Nat.le_refl _, rfl, Nat.le_refl _, fun _ h => h,
        fun _ => False, fun _ h => h.elim, fun _ h => h.elim, fun _ _ _ => rfl, fun b hb _ => t4'' b hb, fun b o h1 h2 => ?_, fun i p h1 h2 => (none_ge i p h1 h2).elim⟩, by rw [← hbe]; exact hv.cut hnn⟩
      · have hi' := hR.dom i _ hi
        have ho := hR.obj i b sz hi
        have h3 := s.rel.obj i b sz (s.rho i _ hi)
        rw [same i hi' (by rw [hws]; simp)] at h3
        exact ho.mono s.mem (fun _ _ h => h) (fun hl => live_free h3 hl) (fun hl => t4'' b (ho.blt hl))
      · rcases t5' b o h1 h2 with h | ⟨i, p, h3, _⟩
        · exact .inl h
        · exact (hno i h3).elim
    · refine ⟨ρ2, ⟨⟨s.rel.mem, s.rel.dom, fun i b sz hi => unrel_obj (s.rel.obj i b sz hi), fun i j b p q hij hi hj hl1 hl2 => unrel_sep hij (s.rel.sep i j b p q hij hi hj) hl1 hl2⟩, s.mem, s.rho, s.old, full, s.os, s.tape, s.output, s.size, hn, rfl, Nat.le_refl _, fun _ h => h,
        fun _ => False, fun _ h => h.elim, fun _ h => h.elim, fun i hi _ => (unrel_lt hi).trans (same i hi (by rw [hws]; simp)), fun b hb _ => t4'' b hb, fun b o h1 h2 => ?_, fun i p h1 h2 => ?_⟩, hv⟩
      · rcases t5' b o h1 h2 with h | ⟨i, p, h3, _⟩
        · exact .inl h
        · exact (hno i h3).elim
      · rcases t6' i p h1 h2 with h | ⟨i, p, h3, _⟩
        · exact .inl h
        · exact (hno i h3).elim
  · rename_i ws hws
    split
    · rename_i hnn
      simp only [Bool.and_eq_true, List.all_eq_true] at hnn
      obtain ⟨hnv, hno⟩ := hnn
      have hob : ∀ i, (H3.ws.foldr (fun i o => upd o i ((H3.obj i).clean H1.next)) H1.obj) i = if i ∈ H3.ws then (H3.obj i).clean H1.next else H1.obj i := foldr_upd _ _ _
      have lv : ∀ i, i < H1.next → (if i ∈ H3.ws then (H3.obj i).clean H1.next else H1.obj i).live → (H3.obj i).live := by
        intro i hi h
        split at h
        · exact clean_live.1 h
        · rename_i hm; rw [same i hi hm]; exact h
      refine ⟨ρ, ⟨⟨s.rel.mem, hR.dom, fun i b sz hi => ?_, fun i j b p q hij hi hj hl1 hl2 => ?_⟩, s.mem, fun _ _ h => h, fun _ _ => rfl, fun i h1 h2 => by simp only at h2; omega, s.os, s.tape, s.output, s.size, Nat.le_refl _, rfl, by simp, fun i hi => by simp [hi],
        fun i => i ∈ H3.ws ∧ i < H1.next, fun i h hb => by simp [h.1, hb], fun _ _ => by simp, fun i hi hT' => ?_, t4', t5', fun i p h1 h2 => (none_ge i p h1 h2).elim⟩, by rw [← hbe]; exact hv.cut hnv⟩
      · have hi' := hR.dom i _ hi
        have ho := hR.obj i b sz hi
        have h3 := s.rel.obj i b sz (s.rho i _ hi)
        simp only [hob]
        split
        · rename_i hm
          have := h3.cut (hno i hm)
          rwa [hbe] at this
        · rename_i hm
          rw [same i hi' hm] at h3
          have := h3.both ho (n := H1.next) (fun i p h => hR.dom i p h)
          rwa [hbe] at this
      · have hi' := hR.dom i _ hi
        have hj' := hR.dom j _ hj
        simp only [hob] at hl1 hl2 ⊢
        have := s.rel.sep i j b p q hij (s.rho i _ hi) (s.rho j _ hj) (lv i hi' hl1) (lv j hj' hl2)
        split
        · exact clean_rel this hj'
        · rename_i hm; rw [← same i hi' hm]; exact this
      · simp only [hob]
        rw [if_neg fun h => hT' ⟨h, hi⟩]
    · refine ⟨ρ2, ⟨⟨s.rel.mem, s.rel.dom, fun i b sz hi => unrel_obj (s.rel.obj i b sz hi), fun i j b p q hij hi hj hl1 hl2 => unrel_sep hij (s.rel.sep i j b p q hij hi hj) hl1 hl2⟩, s.mem, s.rho, s.old, full, s.os, s.tape, s.output, s.size, hn, rfl, by simp, fun i hi => by simp [hi],
        fun i => i ∈ H3.ws ∧ i < H1.next, fun i h hb => by simp [h.1, hb], fun _ _ => by simp, fun i hi hT' => (unrel_lt hi).trans (same i hi fun h => hT' ⟨h, hi⟩), t4', t5', t6'⟩, hv⟩

/-- The table holds what the program's functions translate to. -/
def TabOK (P : Program) (T : Nat → Option AFn) : Prop := ∀ f fd, T f = some fd → ∃ fn c, P.funcs[f]? = some fn ∧ (fn.name == "runtime.NumGoroutine") = false ∧ fn.body = some c ∧ fn.ntmps = fd.ntmps ∧ trCode P fd.ntmps c = some fd.body ∧ trRess P fn.results.toList = some fd.res

theorem begin_rel {M : Mem} {ρ : Rho} {H : Heap} {w : World} (h : Rel M ρ H w) : Rel M ρ H.begin w := ⟨h.mem, h.dom, h.obj, h.sep⟩

theorem args_rel {M : Mem} {ρ : Rho} {args : List AV} {args' : Array Value} {n : Nat} (hl : args'.size = args.length) (h : ∀ i (h1 : i < args.length) (h2 : i < args'.size), VRel M ρ args[i] args'[i]) : TRel M ρ (sigOf args) (args' ++ Array.replicate n undef) := by
  intro t
  unfold sigOf
  by_cases ht : t < args.length
  · have := h t ht (by omega)
    rw [List.getD_eq_getElem?_getD, List.getElem?_eq_getElem ht, Array.getD_eq_getD_getElem?, Array.getElem?_append_left (by omega), Array.getElem?_eq_getElem (by omega)]
    exact this
  · rw [List.getD_eq_getElem?_getD, List.getElem?_eq_none (by omega), Array.getD_eq_getD_getElem?, Array.getElem?_append_right (by omega), Array.getElem?_replicate]
    split <;> exact undef_rel

theorem relax_step {M : Mem} {ρ : Rho} {H : Heap} {w : World} {v : AV} (h : Rel M ρ H w) : Step M ρ H w M ρ (relax H v) w := by
  rcases relax_cases H v with e | ⟨id, cs, r, ho, h1, h2, e⟩
  · rw [e]; exact Step.refl h
  have hu : ((H.set r .dead).set id (.cells cs none)).obj = unrelO H.base (.sl id 0 0 0 true 0) H.obj := by
    simp only [unrelO, ho, h1, h2, and_self, if_true]; rfl
  have hw : ((H.set r .dead).set id (.cells cs none)).ws = H.ws := by
    show (if id < H.base then id :: (if r < H.base then r :: H.ws else H.ws) else (if r < H.base then r :: H.ws else H.ws)) = H.ws
    rw [if_neg (by omega), if_neg (by omega)]
  rw [e]
  refine ⟨⟨h.mem, h.dom, fun i b sz hi => by rw [hu]; exact unrel_obj (h.obj i b sz hi), fun i j b p q hij hi hj hl1 hl2 => by
      rw [hu] at hl1 hl2 ⊢; exact unrel_sep hij (h.sep i j b p q hij hi hj) hl1 hl2⟩, fun _ _ h => h, fun _ _ h => h, fun _ _ => rfl, fun i h1 h2 => ?_, rfl, rfl, rfl, Nat.le_refl _, Nat.le_refl _, rfl, ?_, fun i hi => by rw [hw]; exact hi,
    fun i => ((H.set r .dead).set id (.cells cs none)).obj i ≠ H.obj i, fun i hT hb => (hT (by rw [hu]; exact unrel_lt hb)).elim, fun i _ => ?_, fun i _ hT => Classical.not_not.1 hT, fun _ _ _ => rfl, fun b o k1 k2 => ?_, fun i p k1 k2 => ?_⟩
  · have : i < H.next := h2
    omega
  · simp only [Heap.set]; omega
  · simp only [Heap.set]; omega
  · rw [k1] at k2; cases k2
  · have := h.dom i p k2; omega
theorem relaxL_step {M : Mem} {ρ : Rho} {w : World} (b : Bool) : ∀ (args : List AV) (H : Heap), Rel M ρ H w → Step M ρ H w M ρ (relaxL b args H) w := by
  cases b with
  | false => intro args H h; exact Step.refl h
  | true =>
    intro args
    induction args with
    | nil => intro H h; exact Step.refl h
    | cons v l ih => intro H h; exact (relax_step h).trans (ih _ (relax_step (v := v) h).rel)

theorem call_sound {P : Program} {T : Nat → Option AFn} (hT : TabOK P T) : ∀ n, CallOK P (evalCall T n) := by
  intro n
  induction n with
  | zero => intro g args H v H' h; cases h
  | succ n ih =>
    intro g args H v H' h
    simp only [evalCall] at h
    split at h
    · cases h
    · rename_i fd hfd
      obtain ⟨fn, c, h1, h2, h3, h4, h5, h6⟩ := hT g fd hfd
      refine ⟨⟨fn, h1, h2, by rw [h3]; rfl⟩, fun M ρ w args' hR hl ha => ?_⟩
      split at h
      · rename_i hlen
        split at h
        · cases h
        · rename_i args1 H1 hfz
          have key : ∃ M1, Step M ρ H w M1 ρ H1 w ∧ args1.length = args.length ∧ ∀ i (k1 : i < args1.length) (k2 : i < args'.size), VRel M1 ρ args1[i] args'[i] := by
            split at hfz
            · obtain ⟨M1, s1, v1⟩ := frzL_sound (frz_sound _ w _) args M ρ H args1 H1 (fun i => args'[i]?.getD undef) hfz hR (fun i hi => by
                rw [Array.getElem?_eq_getElem (by omega)]
                exact ha i hi (by omega))
              refine ⟨M1, s1, frzL_len _ _ hfz, fun i k1 k2 => ?_⟩
              have := v1 i k1
              rw [Array.getElem?_eq_getElem k2] at this
              exact this
            · cases hfz
              exact ⟨M, relaxL_step _ _ _ hR, rfl, ha⟩
          obtain ⟨M1, s1, hl1, ha1⟩ := key
          refine calls_of_wp h1 h3 ?_
          have hbr := begin_rel s1.rel
          refine code_sound (N := fd.ntmps) ih (astep_call T n) c fd.body h5 (σ := sigOf args1) (H := H1.begin) (M := M1) (ρ := ρ) ⟨hbr, args_rel (by omega) ha1, ?_, rfl⟩ h ?_
          · simp only [Array.size_append, Array.size_replicate]
            omega
          · intro ex M2 ρ2 σ2 H2 a2 w2 s2 hS2 hk
            have fin : finA fd H1 σ2 H2 = some (v, H') → a2.defers = [] ∧ ∃ r, (results fn a2.tmps).run P w2 = .ok r w2 ∧ ∃ v' M' ρ', Ending.returned r = .returned v' ∧ Step M ρ H w M' ρ' H' w2 ∧ VRel M' ρ' v v' := by
              intro hk
              refine ⟨hS2.defers, ?_⟩
              unfold finA at hk
              split at hk
              · cases hk
              · rename_i vs hvs
                obtain ⟨r, hr1, hr2⟩ := results_rel hS2.rel hS2.tmp h6 hvs
                refine ⟨r, hr1, r, ?_⟩
                split at hk
                · cases hk
                · rename_i v3 H3 h3'
                  have key : ∃ M3, Step M2 ρ2 H2 w2 M3 ρ2 H3 w2 ∧ VRel M3 ρ2 v3 r := by
                    split at h3'
                    · exact frz_sound _ w2 _ _ _ _ _ _ _ _ h3' hS2.rel hr2
                    · cases h3'; exact ⟨M2, Step.refl hS2.rel, hr2⟩
                  obtain ⟨M3, s3, hv3⟩ := key
                  obtain ⟨ρ', s4, hv4⟩ := wrap_sound s1.rel (s2.trans s3) hv3
                  simp only [Option.some.injEq] at hk
                  have e1 : (wrapA H1 v3 H3).1 = v3 := by unfold wrapA; (repeat' split) <;> rfl
                  rw [hk] at s4 e1
                  simp only at e1
                  subst e1
                  exact ⟨M3, ρ', rfl, s1.trans s4, hv4⟩
            cases ex with
            | nrm => exact fin hk
            | exit i => cases hk
            | ret => exact fin hk
      · cases h

#print axioms call_sound
end Go.Mach
