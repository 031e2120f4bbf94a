/-
  Regions whose order Go leaves open: the theorem. By an AI agent.
-/
import Derived.Test.YtpifopfpgfbdgaaMl
set_option linter.unusedSimpArgs false
set_option linter.unusedVariables false
namespace Go.Mach

/-- An operation that changes nothing of what was there is run in the midst of others. -/
theorem merge {M0 M M' : Mem} {ρ0 ρ ρ1 : Rho} {H0 Hc Hi Hi1 : Heap} {w0 w w' : World} (s : StepW M0 ρ0 H0 w0 M ρ Hc w) (h0 : H0.next ≤ Hi.next) (hobj1 : ∀ id, id < Hi1.next → Hc.obj id = Hi1.obj id) (hn : Hi1.next ≤ Hc.next)
    (hfree : ∀ id, Hi.next ≤ id → id < Hi1.next → ρ id = none) (op : Step M (ρ.below Hi.next) Hi w M' ρ1 Hi1 w') (hq : Hi1.wc = Hi.wc) :
    StepW M0 ρ0 H0 w0 M' (fun id => if id < Hi1.next then ρ1 id else ρ id) Hc w' ∧ (∀ i p, ρ i = some p → (if i < Hi1.next then ρ1 i else ρ i) = some p) ∧ (∀ i p, ρ1 i = some p → (if i < Hi1.next then ρ1 i else ρ i) = some p) := by
  obtain ⟨T, _, t2, _, t4, t5, t6⟩ := op.trk
  have hT : ∀ i, ¬ T i := fun i h => by have := t2 i h; omega
  have f4 : ∀ b, b < w.heap.size → w'.heap[b]? = w.heap[b]? := fun b hb => t4 b hb fun i p h => (hT i h).elim
  have f5 : ∀ b o, M' b = some o → M b = none → w.heap.size ≤ b := fun b o h1 h2 => by
    rcases t5 b o h1 h2 with h | ⟨i, p, h, _⟩
    · exact h
    · exact (hT i h).elim
  have f6 : ∀ i p, Hi.next ≤ i → ρ1 i = some p → w.heap.size ≤ p.1 := fun i p h1 h2 => by
    rcases t6 i p h1 h2 with h | ⟨j, q, h, _⟩
    · exact h
    · exact (hT j h).elim
  have hni := op.next
  have below : ∀ i, i < Hi.next → (ρ.below Hi.next) i = ρ i := fun i h => by simp [Rho.below, h]
  have r1 : ∀ i p, ρ i = some p → (if i < Hi1.next then ρ1 i else ρ i) = some p := by
    intro i p hp
    split
    · rename_i hi
      by_cases h : i < Hi.next
      · exact op.rho i p (by rw [below i h]; exact hp)
      · rw [hfree i (by omega) hi] at hp; cases hp
    · exact hp
  have r2 : ∀ i p, ρ1 i = some p → (if i < Hi1.next then ρ1 i else ρ i) = some p := by
    intro i p hp
    rw [if_pos (op.rel.dom i p hp)]; exact hp
  have old1 : ∀ i, i < Hi.next → ρ1 i = ρ i := fun i h => (op.old i h).trans (below i h)
  obtain ⟨T0, u1, u2, u3, u4, u5, u6⟩ := s.trk
  have hsz := op.size
  have hsz0 := s.size
  refine ⟨⟨⟨op.rel.mem, ?_, ?_, ?_⟩, fun b o h => op.mem b o (s.mem b o h), fun i p h => r1 i p (s.rho i p h), ?_, op.os.trans s.os, op.tape.trans s.tape, op.output.trans s.output, by omega, s.next, s.base, s.wc, s.wsub, T0, u1, u2, u3, ?_, ?_, ?_⟩, r1, r2⟩
  · intro i p hp
    split at hp
    · rename_i hi; omega
    · exact s.rel.dom i p hp
  · intro i b sz hp
    split at hp
    · rename_i hi
      rw [hobj1 i hi]
      have h1 := op.rel.obj i b sz hp
      exact h1.mono (fun _ _ h => h) r2 (fun hl => live_free h1 hl) (fun _ => rfl)
    · have h1 := s.rel.obj i b sz hp
      refine h1.mono op.mem r1 (fun hl => ?_) (fun hl => f4 b (h1.blt hl))
      cases hm : M' b with
      | none => rfl
      | some o =>
        have := f5 b o hm (live_free h1 hl)
        have := h1.blt hl
        omega
  · intro i j b p q hij hi hj hl1 hl2
    have back : ∀ {i b p}, ρ i = some (b, p) → (Hc.obj i).live → b < w.heap.size := fun h hl => (s.rel.obj _ _ _ h).blt hl
    split at hi
    · rename_i gi
      split at hj
      · rename_i gj
        rw [hobj1 i gi] at hl1 ⊢
        rw [hobj1 j gj] at hl2
        exact op.rel.sep i j b p q hij hi hj hl1 hl2
      · have hb := back hj hl2
        by_cases h : i < Hi.next
        · rw [old1 i h] at hi
          exact s.rel.sep i j b p q hij hi hj hl1 hl2
        · have := f6 i (b, p) (by omega) hi
          simp only at this; omega
    · have hb := back hi hl1
      split at hj
      · by_cases h : j < Hi.next
        · rw [old1 j h] at hj
          exact s.rel.sep i j b p q hij hi hj hl1 hl2
        · have := f6 j (b, q) (by omega) hj
          simp only at this; omega
      · exact s.rel.sep i j b p q hij hi hj hl1 hl2
  · intro i hi
    rw [if_pos (by omega), old1 i (by omega)]
    exact s.old i hi
  · intro b hb hne
    rw [f4 b (by omega)]
    exact u4 b hb hne
  · intro b o h1 h2
    cases hm : M b with
    | some o' => exact u5 b o' hm h2
    | none => exact .inl (by have := f5 b o h1 hm; omega)
  · intro i p hi hp
    split at hp
    · by_cases h : i < Hi.next
      · rw [old1 i h] at hp; exact u6 i p hi hp
      · exact .inl (by have := f6 i p (by omega) hp; omega)
    · exact u6 i p hi hp

def cnt (f : Nat → Bool) : Nat → Nat
  | 0 => 0
  | n + 1 => cnt f n + (if f n then 1 else 0)

theorem cnt_le (f : Nat → Bool) : ∀ n, cnt f n ≤ n := by
  intro n
  induction n with
  | zero => exact Nat.le_refl _
  | succ n ih => simp only [cnt]; split <;> omega

theorem cnt_full {f : Nat → Bool} : ∀ {n}, cnt f n = n → ∀ i, i < n → f i = true := by
  intro n
  induction n with
  | zero => intro _ i h; omega
  | succ n ih =>
    intro h i hi
    have := cnt_le f n
    simp only [cnt] at h
    split at h
    · by_cases e : i = n
      · subst e; assumption
      · exact ih (by omega) i (by omega)
    · omega

theorem cnt_set {f g : Nat → Bool} {i : Nat} (hf : f i = false) (hg : g i = true) (he : ∀ j, j ≠ i → g j = f j) : ∀ n, (i < n → cnt g n = cnt f n + 1) ∧ (n ≤ i → cnt g n = cnt f n) := by
  intro n
  induction n with
  | zero => exact ⟨fun h => by omega, fun _ => rfl⟩
  | succ n ih =>
    refine ⟨fun h => ?_, fun h => ?_⟩
    · by_cases e : i = n
      · subst e
        have := ih.2 (Nat.le_refl _)
        simp only [cnt, hf, hg]
        simp; omega
      · have := ih.1 (by omega)
        simp only [cnt, he n (fun h => e h.symm)]; omega
    · have := ih.2 (by omega)
      simp only [cnt, he n (by omega), this]

theorem ready_iff {ops : Array Oper} {listed : Array Bool} {i : Nat} : i ∈ Region.ready .any ops listed ↔ ∃ o, ops[i]? = some o ∧ listed.getD i true = false ∧ ∀ d ∈ depsOf o, listed.getD d false = true := by
  simp only [Region.ready, List.mem_filter, List.mem_range, Bool.and_eq_true, Bool.not_eq_true']
  constructor
  · rintro ⟨h1, h2, h3⟩
    refine ⟨ops[i], Array.getElem?_eq_getElem h1, h2, ?_⟩
    rw [Array.getElem?_eq_getElem h1] at h3
    simp only [Option.map_some, Option.getD_some, Array.all_eq_true_iff_forall_mem] at h3
    intro d hd
    simp only [depsOf, List.mem_filterMap] at hd
    obtain ⟨e, he, hd⟩ := hd
    split at hd
    · rename_i hb
      cases hd
      have := h3 e (by simpa using he)
      simpa [hb] using this
    · cases hd
  · rintro ⟨o, h1, h2, h3⟩
    obtain ⟨hi, rfl⟩ := Array.getElem?_eq_some_iff.1 h1
    refine ⟨hi, h2, ?_⟩
    rw [h1]
    simp only [Option.map_some, Option.getD_some, Array.all_eq_true_iff_forall_mem]
    intro e he
    by_cases hb : Region.binds .any e = true
    · have := h3 e.on (by
        simp only [depsOf, List.mem_filterMap]
        exact ⟨e, by simpa using he, by simp [hb]⟩)
      simp [hb]; simpa using this
    · simp [hb]

theorem getD_tf {listed : Array Bool} {i : Nat} (h : i < listed.size) : listed.getD i true = listed.getD i false := by
  simp [Array.getD, h]

theorem getD_set {listed : Array Bool} {i : Nat} (h : i < listed.size) (j : Nat) : (listed.setIfInBounds i true).getD j false = if j = i then true else listed.getD j false := by
  simp only [Array.getD_eq_getD_getElem?, Array.getElem?_setIfInBounds]
  by_cases e : i = j
  · subst e; simp [h]
  · rw [if_neg e, if_neg (fun h => e h.symm)]

section
variable {P : Program} {call : CallFn} {N : Nat} {ops : Array Oper} {as : List AOper} {σs : Nat → Sig} {Hs : Nat → Heap}

/-- The next operation that changes what was there. -/
theorem next_writer (Hs : Nat → Heap) (listed : Array Bool) (n : Nat) : ∀ (k c : Nat), c + k = n → ∃ c', c ≤ c' ∧ c' ≤ n ∧ (c' < n → listed.getD c' false = false ∧ writes Hs c') ∧ ∀ i, c ≤ i → i < c' → listed.getD i false = false → ¬ writes Hs i := by
  intro k
  induction k with
  | zero => intro c hc; exact ⟨c, Nat.le_refl _, by omega, fun h => by omega, fun i h1 h2 => by omega⟩
  | succ k ih =>
    intro c hc
    by_cases h : listed.getD c false = false ∧ writes Hs c
    · exact ⟨c, Nat.le_refl _, by omega, fun _ => h, fun i h1 h2 => by omega⟩
    · obtain ⟨c', g1, g2, g3, g4⟩ := ih (c + 1) (by omega)
      refine ⟨c', by omega, g2, g3, fun i h1 h2 h3 hw => ?_⟩
      by_cases e : i = c
      · subst e; exact h ⟨h3, hw⟩
      · exact g4 i (by omega) h2 h3 hw

theorem slot_ord (hd : DrawP ops as) {listed : Array Bool} (hs : ∀ i o, listed.getD i false = true → ops[i]? = some o → ∀ d ∈ depsOf o, listed.getD d false = true) {i : Nat} {x : AOper} {o : Oper} (hx : as[i]? = some x) (ho : ops[i]? = some o)
    (hr : ∀ d ∈ depsOf o, listed.getD d false = true) (hu : listed.getD i false = false) {t : Nat} (ht : t ∈ readsA x ∨ x.dst = some t) : ∀ j y, j ≠ i → as[j]? = some y → y.dst = some t → (listed.getD j false = true ↔ j < i) := by
  intro j y hne hy hyt
  have hc1 : clash y x = true := by
    unfold clash
    rw [hyt]
    rcases ht with h | h
    · simp [h]
    · simp [h]
  have hc2 : clash x y = true := by
    unfold clash
    rcases ht with h | h
    · rw [hyt]; simp [h]
    · rw [h, hyt]; simp
  constructor
  · intro hl
    rcases Nat.lt_or_ge j i with h | h
    · exact h
    · have hb := hd.meet i j x y (by omega) hx hy hc2
      have := bef_listed hs hb hl
      rw [hu] at this; cases this
  · intro h
    exact bef_ready hs ho hr (hd.meet j i y x h hy hx hc1)

/-- The slots behind one operation. -/
theorem slots_next (hd : DrawP ops as) (ht : Trace call as σs Hs) {listed : Array Bool} (hs : ∀ i o, listed.getD i false = true → ops[i]? = some o → ∀ d ∈ depsOf o, listed.getD d false = true) (hsz : listed.size = as.length) {i : Nat} {x : AOper} {o : Oper} (hx : as[i]? = some x) (ho : ops[i]? = some o)
    (hr : ∀ d ∈ depsOf o, listed.getD d false = true) (hu : listed.getD i false = false) {M M' : Mem} {ρ ρ' : Rho} {a : Act} {v : AV} {v' : Value} (hdst : x.dst = o.dst) (hin : ∀ t, o.dst = some t → t < a.tmps.size)
    (hσ : σs (i + 1) = putS (σs i) x.dst v) (hv : VRel M' ρ' v v') (hM : ∀ b o, M b = some o → M' b = some o) (hρ : ∀ i p, ρ i = some p → ρ' i = some p)
    (htmp : ∀ t p, p ≤ as.length → (∀ j x, as[j]? = some x → x.dst = some t → (listed.getD j false = true ↔ j < p)) → VRel M ρ (σs p t) (a.tmps.getD t undef)) (hany : ∀ t, ∃ v, VRel M ρ v (a.tmps.getD t undef)) :
    (∀ t p, p ≤ as.length → (∀ j x, as[j]? = some x → x.dst = some t → ((listed.setIfInBounds i true).getD j false = true ↔ j < p)) → VRel M' ρ' (σs p t) ((a.put o.dst v').tmps.getD t undef)) ∧ (∀ t, ∃ v, VRel M' ρ' v ((a.put o.dst v').tmps.getD t undef)) := by
  have hil : i < as.length := (List.getElem?_eq_some_iff.1 hx).1
  have hset := fun j => getD_set (listed := listed) (i := i) (by omega) j
  have hget : ∀ t, (a.put o.dst v').tmps.getD t undef = if o.dst = some t then v' else a.tmps.getD t undef := by
    intro t
    cases hd' : o.dst with
    | none => simp [Act.put]
    | some d =>
      have hlt := hin d hd'
      simp only [Act.put, Array.getD_eq_getD_getElem?, Array.getElem?_setIfInBounds, Option.some.injEq]
      by_cases e : d = t
      · subst e; simp [hlt]
      · simp [e]
  refine ⟨fun t p hp hw => ?_, fun t => ?_⟩
  · rw [hget]
    by_cases e : o.dst = some t
    · rw [if_pos e]
      have hip : i < p := (hw i x hx (by rw [hdst, e])).1 (by rw [hset, if_pos rfl])
      have h1 : σs p t = σs (i + 1) t := trace_slot ht t (by omega) hp fun k y h1 h2 hy hyt => by
        have h3 := (hw k y hy hyt).2 h2
        rw [hset, if_neg (by omega)] at h3
        have := (slot_ord hd hs hx ho hr hu (.inr (by rw [hdst, e])) k y (by omega) hy hyt).1 h3
        omega
      rw [h1, hσ, hdst, e]
      simp only [putS, upd_same]
      exact hv
    · rw [if_neg e]
      refine (htmp t p hp fun j y hy hyt => ?_).mono hM hρ
      have hji : j ≠ i := fun h => by subst h; rw [hx] at hy; cases hy; rw [hdst] at hyt; exact e hyt
      have := hw j y hy hyt
      rwa [hset, if_neg hji] at this
  · rw [hget]
    split
    · exact ⟨v, hv⟩
    · obtain ⟨u, hu⟩ := hany t; exact ⟨u, hu.mono hM hρ⟩

theorem draw_sound (hcall : CallOK P call) (hca : CallA call) (has : ∀ (j : Nat) (x : AOper), as[j]? = some x → ∃ o s, ops[j]? = some o ∧ trOper P N ops s o = some x) (hlen : as.length = ops.size) (hd : DrawP ops as) (ht : Trace call as σs Hs) {M0 : Mem} {ρ0 : Rho} {w0 : World} (hR0 : Rel M0 ρ0 (Hs 0) w0)
    {tm : Array Value} (hT0 : TRel M0 ρ0 (σs 0) tm) (hN0 : tm.size = N) {Q : Exit → Act → World → Prop}
    (hQ : ∀ M ρ a w, Step M0 ρ0 (Hs 0) w0 M ρ (Hs as.length) w → SRel M ρ N (σs as.length) (Hs as.length) a w → Q .normal a w) :
    ∀ (fuel : Nat) (listed : Array Bool) (c : Nat) (a : Act) (w : World) (M : Mem) (ρ : Rho), Mid M0 ρ0 w0 N ops as σs Hs listed c a w M ρ → as.length ≤ fuel + cnt (fun i => listed.getD i false) as.length → wpAny P .any ops Q fuel listed a w := by
  have done : ∀ (listed : Array Bool) (c : Nat) (a : Act) (w : World) (M : Mem) (ρ : Rho), Mid M0 ρ0 w0 N ops as σs Hs listed c a w M ρ → (∀ i, i < as.length → listed.getD i false = true) → Q .normal a w := by
    intro listed c a w M ρ hm hall
    have hc : c = as.length := by
      have := hm.cle
      rcases Nat.lt_or_ge c as.length with h | h
      · have h1 := (hm.cfree h).1
        rw [hall c h] at h1; cases h1
      · omega
    subst hc
    refine hQ M ρ a w (hm.step.toStep fun i h1 h2 => ?_) ⟨hm.step.rel, fun t => ?_, hm.size, hm.defers⟩
    · rw [hm.ids i h1]
      have : ∀ n, n ≤ as.length → i < (Hs n).next → ∃ j, j < as.length ∧ (Hs j).next ≤ i ∧ i < (Hs (j + 1)).next := by
        intro n
        induction n with
        | zero => intro _ h; omega
        | succ n ih =>
          intro hn h
          by_cases h3 : i < (Hs n).next
          · exact ih (by omega) h3
          · exact ⟨n, by omega, by omega, h⟩
      obtain ⟨j, g1, g2, g3⟩ := this as.length (Nat.le_refl _) h2
      exact ⟨j, hall j g1, g2, g3⟩
    · exact hm.tmp t as.length (Nat.le_refl _) fun j x hx _ => ⟨fun _ => (List.getElem?_eq_some_iff.1 hx).1, fun h => hall j h⟩
  have empty : ∀ (listed : Array Bool) (c : Nat) (a : Act) (w : World) (M : Mem) (ρ : Rho), Mid M0 ρ0 w0 N ops as σs Hs listed c a w M ρ → Region.ready .any ops listed = [] → ∀ i, i < as.length → listed.getD i false = true := by
    intro listed c a w M ρ hm he i
    induction i using Nat.strongRecOn with
    | _ i ih =>
      intro hi
      cases hl : listed.getD i false with
      | true => rfl
      | false =>
        exfalso
        have ho : ops[i]? = some ops[i] := Array.getElem?_eq_getElem (by omega)
        have : i ∈ Region.ready .any ops listed := ready_iff.2 ⟨_, ho, by rw [getD_tf (by rw [hm.lsize]; exact hi)]; exact hl, fun d hdd => by
          have := hd.back i _ ho d hdd
          exact ih d this (by omega)⟩
        rw [he] at this; cases this
  intro fuel
  induction fuel with
  | zero =>
    intro listed c a w M ρ hm hf
    have hall : ∀ i, i < as.length → listed.getD i false = true := cnt_full (f := fun i => listed.getD i false) (by
      have := cnt_le (fun i => listed.getD i false) as.length
      omega)
    refine ⟨?_, done listed c a w M ρ hm hall⟩
    rw [List.eq_nil_iff_forall_not_mem]
    intro i hi
    obtain ⟨o, h1, h2, _⟩ := ready_iff.1 hi
    have hil : i < as.length := by rw [hlen]; exact (Array.getElem?_eq_some_iff.1 h1).1
    rw [getD_tf (by rw [hm.lsize]; exact hil), hall i hil] at h2
    cases h2
  | succ fuel ihf =>
    intro listed c a w M ρ hm hf
    refine ⟨fun he => done listed c a w M ρ hm (empty listed c a w M ρ hm he), fun i hi => ?_⟩
    obtain ⟨o, ho, hu0, hr⟩ := ready_iff.1 hi
    have hil : i < as.length := by rw [hlen]; exact (Array.getElem?_eq_some_iff.1 ho).1
    have hu : listed.getD i false = false := by rw [← getD_tf (by rw [hm.lsize]; exact hil)]; exact hu0
    have hx : as[i]? = some as[i] := List.getElem?_eq_getElem hil
    generalize hxe : as[i] = x at hx
    obtain ⟨o', s', ho', hto⟩ := has i x hx
    rw [ho] at ho'; cases ho'
    obtain ⟨g1, g2, g3, g4, g5⟩ := trOper_parts hto
    have hin : ∀ t, o.dst = some t → t < a.tmps.size := fun t h => by rw [hm.size]; exact g5 t h
    have hset := fun j => getD_set (listed := listed) (i := i) (by rw [hm.lsize]; exact hil) j
    have shut' : ∀ j o', (listed.setIfInBounds i true).getD j false = true → ops[j]? = some o' → ∀ d ∈ depsOf o', (listed.setIfInBounds i true).getD d false = true := by
      intro j o' hj hoj d hdd
      rw [hset] at hj ⊢
      split
      · rfl
      · split at hj
        · rename_i e; subst e; rw [ho] at hoj; cases hoj; exact hr d hdd
        · exact hm.shut j o' hj hoj d hdd
    have cnt' : as.length ≤ fuel + cnt (fun j => (listed.setIfInBounds i true).getD j false) as.length := by
      have := (cnt_set (f := fun j => listed.getD j false) (g := fun j => (listed.setIfInBounds i true).getD j false) (i := i) hu (by simp only [hset]; simp) (fun j hj => by simp only [hset]; rw [if_neg hj]) as.length).1 hil
      omega
    -- a state of slots that is right where the operation looks
    have hσ' : ∃ σ' : Sig, TRel M ρ σ' a.tmps ∧ ∀ t ∈ readsA x, σ' t = σs i t := by
      refine ⟨fun t => if t ∈ readsA x then σs i t else (hm.any t).choose, fun t => ?_, fun t h => by simp [h]⟩
      by_cases h : t ∈ readsA x
      · simp only [h, if_true]
        refine hm.tmp t i (by omega) fun j y hy hyt => ?_
        by_cases e : j = i
        · subst e; rw [hu]; simp
        · exact slot_ord hd hm.shut hx ho hr hu (.inl h) j y e hy hyt
      · simp only [h, if_false]; exact (hm.any t).choose_spec
    obtain ⟨σ', hσT, hσe⟩ := hσ'
    have hwant : Region.wanted o (yielded ops a.tmps) = wantedA (σs i) x.guard := by
      rw [wanted_rel hσT g2]
      unfold wantedA
      cases hg : x.guard with
      | none => rfl
      | some p =>
        obtain ⟨t, want⟩ := p
        simp only
        rw [hσe t (by simp [readsA, hg])]
    have hev : ∀ y ∈ x.op.opds, ev σ' y = ev (σs i) y := by
      intro y hy
      cases y with
      | t n => exact hσe n (by simp only [readsA, List.mem_append, List.mem_flatMap]; exact .inl ⟨_, hy, by simp [AOpd.tmps]⟩)
      | c v => rfl
    -- the rest of 'Mid' behind the operation
    have fin : ∀ (c' : Nat) (M' : Mem) (ρ' : Rho) (w' : World) (v : AV) (v' : Value), c ≤ c' → c' ≤ as.length → (c' < as.length → (listed.setIfInBounds i true).getD c' false = false ∧ writes Hs c') → (∀ j, j < c' → (listed.setIfInBounds i true).getD j false = false → ¬ writes Hs j) →
        StepW M0 ρ0 (Hs 0) w0 M' ρ' (Hs c') w' → (∀ id, (Hs 0).next ≤ id → ((∃ p, ρ' id = some p) ↔ ((∃ p, ρ id = some p) ∨ ((Hs i).next ≤ id ∧ id < (Hs (i + 1)).next)))) → σs (i + 1) = putS (σs i) x.dst v → VRel M' ρ' v v' → (∀ b o, M b = some o → M' b = some o) → (∀ i p, ρ i = some p → ρ' i = some p) →
        wpAny P .any ops Q fuel (listed.setIfInBounds i true) (a.put o.dst v') w' := by
      intro c' M' ρ' w' v v' _ h1 h2 h3 h4 h5 h6 h7 h8 h9
      obtain ⟨k1, k2⟩ := slots_next hd ht hm.shut hm.lsize hx ho hr hu g3 hin h6 h7 h8 h9 hm.tmp hm.any
      refine ihf _ c' _ _ M' ρ' ⟨by simp [hm.lsize], shut', h1, h2, h3, h4, fun id hid => ?_, k1, k2, (put_size a _ _).1.trans hm.size, (put_size a _ _).2.trans hm.defers⟩ cnt'
      rw [h5 id hid, hm.ids id hid]
      constructor
      · rintro (⟨j, q1, q2⟩ | q)
        · exact ⟨j, by rw [hset]; split <;> first | rfl | exact q1, q2⟩
        · exact ⟨i, by rw [hset, if_pos rfl], q⟩
      · rintro ⟨j, q1, q2⟩
        rw [hset] at q1
        split at q1
        · rename_i e; subst e; exact .inr q2
        · exact .inl ⟨j, q1, q2⟩
    have same_c : i ≠ c → (c < as.length → (listed.setIfInBounds i true).getD c false = false ∧ writes Hs c) ∧ (∀ j, j < c → (listed.setIfInBounds i true).getD j false = false → ¬ writes Hs j) := by
      intro hne
      refine ⟨fun h => ?_, fun j hj hl => ?_⟩
      · rw [hset, if_neg (fun e => hne e.symm)]; exact hm.cfree h
      · rw [hset] at hl
        split at hl
        · cases hl
        · exact hm.cmin j hj hl
    have quiet_at : Hs (i + 1) = Hs i ∨ (Hs (i+1)).wc = (Hs i).wc ∨ writes Hs i := by
      by_cases h : (Hs (i+1)).wc = (Hs i).wc
      · exact .inr (.inl h)
      · exact .inr (.inr h)
    have ai := trace_astep hca ht i hil
    unfold wpOp
    rw [ho]
    simp only
    rw [hwant]
    rcases ht.step i x hx with ⟨hw, v, hst, hsolo, hσn⟩ | ⟨hw, hH, hσn⟩
    · rw [hw]
      simp only [if_true]
      left
      cases hh : heapOp x.op with
      | false =>
        -- it does not look at the heap
        obtain ⟨e1, e2⟩ := noheap hh hst
        have hst' : stepA call (ev σ') (Hs c) x.op = some (v, Hs c) := by rw [step_congr hev]; exact e2 (Hs c)
        refine oper_sound hcall g1 hm.step.rel (reads_of hσT) hst' ?_
        intro M' ρ' v' w' hs hv
        have hne : i ≠ c := fun e => by
          subst e
          exact (hm.cfree hil).2 (by rw [e1])
        obtain ⟨c1, c2⟩ := same_c hne
        refine fin c M' ρ' w' v v' (Nat.le_refl _) hm.cle c1 c2 (hm.step.trans hs.toW) (fun id hid => ?_) hσn hv hs.mem hs.rho
        constructor
        · rintro ⟨p, hp⟩
          left
          by_cases hlt : id < (Hs c).next
          · rw [hs.old id hlt] at hp; exact ⟨p, hp⟩
          · have := hs.rel.dom id p hp; omega
        · rintro (⟨p, hp⟩ | ⟨q1, q2⟩)
          · exact ⟨p, hs.rho id p hp⟩
          · rw [e1] at q2; omega
      | true =>
        by_cases hic : i = c
        · -- the next one that changes what was there
          subst hic
          have hwr := (hm.cfree hil).2
          have hso := (writes_solo ht hx hwr).1
          have hst' : stepA call (ev σ') (Hs i) x.op = some (v, Hs (i + 1)) := by rw [step_congr hev]; exact hst
          refine oper_sound hcall g1 hm.step.rel (reads_of hσT) hst' ?_
          intro M' ρ' v' w' hs hv
          obtain ⟨c', k1, k2, k3, k4⟩ := next_writer Hs (listed.setIfInBounds i true) as.length (as.length - (i + 1)) (i + 1) (by omega)
          have hq : ∀ k, i + 1 ≤ k → k < c' → ¬ writes Hs k := by
            intro k h1 h2
            cases hlk : listed.getD k false with
            | false => exact k4 k h1 h2 (by rw [hset, if_neg (by omega)]; exact hlk)
            | true =>
              intro hwk
              have hkl : k < as.length := by omega
              have hxk : as[k]? = some (as[k]'hkl) := List.getElem?_eq_getElem hkl
              have hhk := (writes_solo ht hxk hwk).2
              rcases hd.solo i x hx hso k _ hxk (by omega) hhk with hb | hb
              · have := bef_listed hm.shut hb hlk
                rw [hu] at this; cases this
              · have := bef_lt hd hb; omega
          have hs' := (hm.step.trans hs.toW).later (trace_le hca ht k1 k2) (quiet_range hca ht k1 k2 hq) hs.rel.dom
          refine fin c' M' ρ' w' v v' (by omega) k2 k3 (fun j hj hl => ?_) hs' (fun id hid => ?_) hσn hv hs.mem hs.rho
          · rcases Nat.lt_or_ge j (i + 1) with h | h
            · rw [hset] at hl
              split at hl
              · cases hl
              · exact hm.cmin j (by omega) hl
            · exact hq j h hj
          · constructor
            · rintro ⟨p, hp⟩
              by_cases hlt : id < (Hs i).next
              · rw [hs.old id hlt] at hp; exact .inl ⟨p, hp⟩
              · exact .inr ⟨by omega, hs.rel.dom id p hp⟩
            · rintro (⟨p, hp⟩ | ⟨q1, q2⟩)
              · exact ⟨p, hs.rho id p hp⟩
              · exact hs.full id q1 q2
        · -- one that changes nothing
          have hlt : i < c := by
            rcases Nat.lt_or_ge i c with h | h
            · exact h
            · exfalso
              have hcl : c < as.length := by omega
              obtain ⟨l1, l2⟩ := hm.cfree hcl
              have hxc : as[c]? = some as[c] := List.getElem?_eq_getElem hcl
              have hsc := (writes_solo ht hxc l2).1
              rcases hd.solo c _ hxc hsc i x hx (by omega) hh with hb | hb
              · have := bef_ready hm.shut ho hr hb
                rw [l1] at this; cases this
              · have := bef_lt hd hb; omega
          have hnw : ¬ writes Hs i := hm.cmin i hlt hu
          have hwc : (Hs (i + 1)).wc = (Hs i).wc := Classical.not_not.1 hnw
          have hq : ∀ k, i ≤ k → k < c → ¬ writes Hs k := by
            intro k h1 h2
            cases hlk : listed.getD k false with
            | false => exact hm.cmin k h2 hlk
            | true =>
              intro hwk
              have hkl : k < as.length := by have := hm.cle; omega
              have hxk : as[k]? = some (as[k]'hkl) := List.getElem?_eq_getElem hkl
              obtain ⟨hsk, _⟩ := writes_solo ht hxk hwk
              have hki : k ≠ i := fun e => by subst e; rw [hu] at hlk; cases hlk
              rcases hd.solo k _ hxk hsk i x hx (by omega) hh with hb | hb
              · have := bef_lt hd hb; omega
              · have := bef_listed hm.shut hb hlk
                rw [hu] at this; cases this
          have aic := trace_le hca ht (Nat.le_of_lt hlt) hm.cle
          have aic1 := trace_le hca ht (show i + 1 ≤ c by omega) hm.cle
          have o1 := aic.quiet (quiet_range hca ht (Nat.le_of_lt hlt) hm.cle hq)
          have o2 := aic1.quiet (quiet_range hca ht (show i + 1 ≤ c by omega) hm.cle (fun k h1 h2 => hq k (by omega) h2))
          have a0 := trace_le hca ht (Nat.zero_le i) (by omega)
          have n0 := a0.next
          have ni := ai.next
          -- the numbers of this operation are not taken
          have hfree : ∀ id, (Hs i).next ≤ id → id < (Hs (i + 1)).next → ρ id = none := by
            intro id h1 h2
            cases hp : ρ id with
            | none => rfl
            | some p =>
              exfalso
              obtain ⟨j, q1, q2, q3⟩ := (hm.ids id (by omega)).1 ⟨p, hp⟩
              by_cases e : j = i
              · subst e; rw [hu] at q1; cases q1
              · have hjl : j < as.length := by
                  rcases Nat.lt_or_ge j as.length with h | h
                  · exact h
                  · have : listed.getD j false = false := by simp [Array.getD, hm.lsize, Nat.not_lt.2 h]
                    rw [this] at q1; cases q1
                rcases Nat.lt_or_ge j i with h | h
                · have := (trace_le hca ht (show j + 1 ≤ i by omega) (by omega)).next; omega
                · have := (trace_le hca ht (show i + 1 ≤ j by omega) (by omega)).next; omega
          obtain ⟨Mg, ρg, wg, tg, sg, sgT, _⟩ := ghost hcall has ht hR0 hT0 hN0 i (by omega)
          have hRi : Rel M (ρ.below (Hs i).next) (Hs i) w := by
            refine hm.step.rel.restrict sg.rel o1 fun id p hid hp => ?_
            by_cases h : id < (Hs 0).next
            · rw [hm.step.old id h] at hp
              exact ⟨p, sg.rho id p hp⟩
            · exact sg.full id (by omega) hid
          -- the slots, seen without the later numbers
          obtain ⟨e2, he2⟩ : ∃ e2 : Operand → Value, e2 = fun y => match y with
            | .tmp t => if t ∈ readsA x then a.tmps.getD t undef else undef
            | y => a.eval y := ⟨_, rfl⟩
          obtain ⟨σ'', hσd⟩ : ∃ σ'' : Sig, σ'' = fun t => if t ∈ readsA x then σs i t else undefA := ⟨_, rfl⟩
          have hσe2 : ∀ t ∈ readsA x, σ'' t = σs i t := fun t h => by rw [hσd]; simp [h]
          have hr2 : Reads M (ρ.below (Hs i).next) (ev σ'') e2 := by
            have h0 : ∀ t, VRel M (ρ.below (Hs i).next) (σ'' t) (e2 (.tmp t)) := by
              intro t
              rw [hσd, he2]
              by_cases h : t ∈ readsA x
              · simp only [h, if_true]
                have h1 := hσT t
                rw [hσe t h] at h1
                exact h1.both (sgT t) sg.rel.dom
              · simp only [h, if_false]; exact undef_rel
            intro y ay hy
            cases y with
            | tmp t => cases hy; exact h0 t
            | const d =>
              simp only [trO] at hy
              split at hy
              · cases hy; rw [he2]; exact trV_rel (by assumption)
              · cases hy
            | global g => cases hy
            | func g =>
              cases hy
              rw [he2]
              exact .fn g rfl rfl (fun i h => absurd h (by simp)) (fun i h => absurd h (by simp))
          have hns : ∀ cs b, o.op ≠ .select cs b := fun cs b h => by rw [h] at g1; cases g1
          have hee : execOp a.eval o = execOp e2 o := execOp_congr o hns fun y hy => by
            rw [he2]
            cases y with
            | tmp t => simp only [hd.looks i o x ho hx hh t hy, if_true]; rfl
            | const d => rfl
            | global g => rfl
            | func g => rfl
          have hev2 : ∀ y ∈ x.op.opds, ev σ'' y = ev (σs i) y := by
            intro y hy
            cases y with
            | t n => exact hσe2 n (by simp only [readsA, List.mem_append, List.mem_flatMap]; exact .inl ⟨_, hy, by simp [AOpd.tmps]⟩)
            | c v => rfl
          have hst' : stepA call (ev σ'') (Hs i) x.op = some (v, Hs (i + 1)) := by rw [step_congr hev2]; exact hst
          refine oper_sound' hcall hee g1 hRi hr2 hst' ?_
          intro M' ρ1 v' w' hs hv
          obtain ⟨m1, m2, m3⟩ := merge hm.step n0 o2 aic1.next hfree hs hwc
          obtain ⟨c1, c2⟩ := same_c hic
          refine fin c M' _ w' v v' (Nat.le_refl _) hm.cle c1 c2 m1 (fun id hid => ?_) hσn (hv.mono (fun _ _ h => h) m3) hs.mem m2
          constructor
          · rintro ⟨p, hp⟩
            split at hp
            · rename_i h1
              by_cases h2 : id < (Hs i).next
              · rw [hs.old id h2] at hp
                simp only [Rho.below, h2, if_true] at hp
                exact .inl ⟨p, hp⟩
              · exact .inr ⟨by omega, h1⟩
            · exact .inl ⟨p, hp⟩
          · rintro (⟨p, hp⟩ | ⟨q1, q2⟩)
            · exact ⟨p, m2 id p hp⟩
            · obtain ⟨p, hp⟩ := hs.full id q1 q2
              exact ⟨p, m3 id p hp⟩
    · rw [hw]
      simp only [Bool.false_eq_true, if_false]
      have hne : i ≠ c := fun e => by
        subst e
        exact (hm.cfree hil).2 (by rw [hH])
      obtain ⟨c1, c2⟩ := same_c hne
      refine fin c M ρ w undefA undef (Nat.le_refl _) hm.cle c1 c2 hm.step (fun id hid => ?_) hσn undef_rel (fun _ _ h => h) (fun _ _ h => h)
      constructor
      · exact fun h => .inl h
      · rintro (h | ⟨q1, q2⟩)
        · exact h
        · rw [hH] at q2; omega
end
end Go.Mach
