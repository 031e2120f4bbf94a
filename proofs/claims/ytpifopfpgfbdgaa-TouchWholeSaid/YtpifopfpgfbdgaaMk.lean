/-
  What one step of the machine may change of its heap (no model in sight). By an AI agent.
-/
import Derived.Test.YtpifopfpgfbdgaaMb
set_option linter.unusedSimpArgs false
set_option linter.unusedVariables false
namespace Go.Mach

structure AStep (H H' : Heap) : Prop where
  next : H.next ≤ H'.next
  base : H'.base = H.base
  wc : H.wc ≤ H'.wc
  ws : ∀ i, i ∈ H.ws → i ∈ H'.ws
  obj : ∀ i, i < H.next → H'.obj i = H.obj i ∨ ((i < H.base → i ∈ H'.ws) ∧ H.wc < H'.wc)

theorem AStep.refl (H : Heap) : AStep H H := ⟨Nat.le_refl _, rfl, Nat.le_refl _, fun _ h => h, fun _ _ => .inl rfl⟩

theorem AStep.trans {H H1 H2 : Heap} (a : AStep H H1) (b : AStep H1 H2) : AStep H H2 := by
  refine ⟨Nat.le_trans a.next b.next, b.base.trans a.base, Nat.le_trans a.wc b.wc, fun i h => b.ws _ (a.ws _ h), fun i hi => ?_⟩
  have hn := a.next
  rcases b.obj i (by omega) with h1 | ⟨h1, h2⟩
  · rcases a.obj i hi with h3 | ⟨h3, h4⟩
    · exact .inl (h1.trans h3)
    · exact .inr ⟨fun h => b.ws _ (h3 h), Nat.lt_of_lt_of_le h4 b.wc⟩
  · exact .inr ⟨fun h => h1 (by rw [a.base]; exact h), Nat.lt_of_le_of_lt a.wc h2⟩

/-- Where the count of the changes stands still, what was there is there still. -/
theorem AStep.quiet {H H' : Heap} (a : AStep H H') (h : H'.wc = H.wc) : ∀ i, i < H.next → H'.obj i = H.obj i := by
  intro i hi
  rcases a.obj i hi with h1 | ⟨_, h1⟩
  · exact h1
  · omega

theorem AStep.set (H : Heap) (i : Nat) (o : AObj) : AStep H (H.set i o) := by
  refine ⟨Nat.le_refl _, rfl, by simp [Heap.set], fun j hj => ?_, fun j hj => ?_⟩
  · by_cases h : i < H.base <;> simp [Heap.set, h, hj]
  · by_cases e : j = i
    · subst e
      refine .inr ⟨fun h => by simp [Heap.set, h], by simp [Heap.set]⟩
    · exact .inl (by simp [Heap.set, upd, e])

theorem AStep.kill (H : Heap) (r : Option Nat) : AStep H (H.kill r) := by
  cases r with
  | none => exact AStep.refl H
  | some j => exact AStep.set H j .dead

theorem AStep.new (H : Heap) (o : AObj) : AStep H (H.new o) := by
  refine ⟨by simp [Heap.new], rfl, Nat.le_refl _, fun j hj => hj, fun j hj => .inl ?_⟩
  simp only [Heap.new]
  exact upd_ne _ _ (by omega)

theorem AStep.over (H : Heap) (r : Option Nat) (i : Nat) (o : AObj) : AStep H ((H.kill r).set i o) := (AStep.kill H r).trans (AStep.set _ _ _)

theorem astep_app {H H' : Heap} {e bytes : Nat} {x y v : AV} (h : appA H e bytes x y = some (v, H')) : AStep H H' := by
  unfold appA at h
  (repeat' split at h) <;> (first | (cases h; done) | (cases h; first | exact AStep.refl _ | exact AStep.new _ _ | exact AStep.over _ _ _ _ | exact (AStep.over _ _ _ _).trans (AStep.new _ _)))

theorem astep_heap {f : AOpd → AV} {H H' : Heap} {op : AOp} {v : AV} (h : heapA f H op = some (v, H')) : AStep H H' := by
  cases op <;> simp only [heapA] at h <;> try (cases h; done)
  case app e bytes x y => exact astep_app h
  case store n a x =>
    split at h
    · rename_i H1 hs
      cases h
      unfold storeA at hs
      (repeat' split at hs) <;> (first | (cases hs; done) | (cases hs; exact AStep.over _ _ _ _))
    · cases h
  all_goals
    (repeat' split at h) <;> (first | (cases h; done) | (cases h; first | exact AStep.refl _ | exact AStep.new _ _ | exact AStep.over _ _ _ _ | exact AStep.set _ _ _))

def CallA (call : CallFn) : Prop := ∀ g args H v H', call g args H = some (v, H') → AStep H H'

theorem astep_step {call : CallFn} (hc : CallA call) {f : AOpd → AV} {H H' : Heap} {op : AOp} {v : AV} (h : stepA call f H op = some (v, H')) : AStep H H' := by
  unfold stepA at h
  split at h
  · split at h
    · exact hc _ _ _ _ _ h
    · cases h
  · split at h
    · split at h <;> cases h
      exact AStep.refl _
    · exact astep_heap h

theorem astep_ops {call : CallFn} (hc : CallA call) {k : Sig → Heap → R} {r : AV × Heap} : ∀ (l : List AOper) (σ : Sig) (H : Heap), evalOps call l k σ H = some r → ∃ σ' H', AStep H H' ∧ k σ' H' = some r := by
  intro l
  induction l with
  | nil => intro σ H h; exact ⟨σ, H, AStep.refl H, h⟩
  | cons o l ih =>
    intro σ H h
    simp only [evalOps] at h
    split at h
    · split at h
      · rename_i v H1 hst
        split at h
        · obtain ⟨σ', H', h1, h2⟩ := ih _ _ h
          exact ⟨σ', H', (astep_step hc hst).trans h1, h2⟩
        · cases h
      · cases h
    · exact ih _ _ h

theorem astep_loop {body : KF → Sig → Heap → R} {r : AV × Heap} (hb : ∀ k σ H, body k σ H = some r → ∃ e σ' H', AStep H H' ∧ k e σ' H' = some r) : ∀ (n : Nat) (k : KF) (σ : Sig) (H : Heap), loopK body n k σ H = some r → ∃ e σ' H', AStep H H' ∧ k e σ' H' = some r := by
  intro n
  induction n with
  | zero => intro k σ H h; cases h
  | succ n ih =>
    intro k σ H h
    simp only [loopK] at h
    obtain ⟨e, σ', H', h1, h2⟩ := hb _ _ _ h
    cases e with
    | nrm =>
      obtain ⟨e', σ'', H'', h3, h4⟩ := ih _ _ _ h2
      exact ⟨e', σ'', H'', h1.trans h3, h4⟩
    | exit i => exact ⟨_, σ', H', h1, h2⟩
    | ret => exact ⟨_, σ', H', h1, h2⟩

theorem astep_code {call : CallFn} (hc : CallA call) {r : AV × Heap} {n : Nat} : ∀ (c : ACode) (k : KF) (σ : Sig) (H : Heap), evalK call n c k σ H = some r → ∃ e σ' H', AStep H H' ∧ k e σ' H' = some r := by
  intro c
  induction c with
  | skip => intro k σ H h; exact ⟨_, σ, H, AStep.refl H, h⟩
  | ops l =>
    intro k σ H h
    obtain ⟨σ', H', h1, h2⟩ := astep_ops hc l σ H h
    exact ⟨_, σ', H', h1, h2⟩
  | seq a b iha ihb =>
    intro k σ H h
    obtain ⟨e, σ', H', h1, h2⟩ := iha _ _ _ h
    cases e with
    | nrm =>
      obtain ⟨e', σ'', H'', h3, h4⟩ := ihb _ _ _ h2
      exact ⟨e', σ'', H'', h1.trans h3, h4⟩
    | exit i => exact ⟨_, σ', H', h1, h2⟩
    | ret => exact ⟨_, σ', H', h1, h2⟩
  | cond c x y ihx ihy =>
    intro k σ H h
    simp only [evalK] at h
    split at h
    · split at h
      · exact ihx _ _ _ h
      · exact ihy _ _ _ h
    · cases h
  | block id c ih =>
    intro k σ H h
    obtain ⟨e, σ', H', h1, h2⟩ := ih _ _ _ h
    cases e with
    | nrm => exact ⟨_, σ', H', h1, h2⟩
    | exit i =>
      simp only at h2
      split at h2
      · exact ⟨_, σ', H', h1, h2⟩
      · exact ⟨_, σ', H', h1, h2⟩
    | ret => exact ⟨_, σ', H', h1, h2⟩
  | loop c ih =>
    intro k σ H h
    exact astep_loop (fun k σ H h => ih k σ H h) n k σ H h
  | exit id => intro k σ H h; exact ⟨_, σ, H, AStep.refl H, h⟩
  | ret => intro k σ H h; exact ⟨_, σ, H, AStep.refl H, h⟩

theorem astep_frzL {fz : Heap → AV → R} (hf : ∀ H v v' H', fz H v = some (v', H') → AStep H H') : ∀ (l : List AV) (H : Heap) {l' : List AV} {H' : Heap}, frzL fz l H = some (l', H') → AStep H H' := by
  intro l
  induction l with
  | nil => intro H l' H' h; cases h; exact AStep.refl H
  | cons v l ih =>
    intro H l' H' h
    simp only [frzL] at h
    split at h
    · cases h
    · rename_i v' H1 h1
      split at h
      · cases h
      · rename_i r H2 h2
        cases h
        exact (hf _ _ _ _ h1).trans (ih _ h2)

theorem astep_frz (b : Nat) : ∀ (n : Nat) (H : Heap) (v v' : AV) (H' : Heap), frz b n H v = some (v', H') → AStep H H' := by
  intro n
  induction n with
  | zero => intro H v v' H' h; cases h
  | succ n ih =>
    intro H v v' H' h
    unfold frz at h
    split at h
    · split at h
      · cases h; exact AStep.refl H
      · split at h
        · split at h
          · split at h
            · cases h; exact AStep.over _ _ _ _
            · cases h
          · split at h
            · cases h
            · rename_i cs' H1 h1
              split at h
              · split at h
                · split at h
                  · cases h; exact (astep_frzL ih _ _ h1).trans (AStep.over _ _ _ _)
                  · cases h
                · cases h
              · cases h
        · split at h
          · cases h; exact AStep.refl H
          · cases h
        · cases h
    · split at h
      · rename_i cs' H1 h1; cases h; exact astep_frzL ih _ _ h1
      · cases h
    · split at h
      · rename_i cs' H1 h1; cases h; exact astep_frzL ih _ _ h1
      · cases h
    · cases h; exact AStep.refl H

/-- The heap that a call begins with. -/
def Heap.begin (H : Heap) : Heap := { H with base := H.next, ws := [] }

theorem foldr_upd (g : Nat → AObj) (f : Nat → AObj) : ∀ (ws : List Nat) (i : Nat), (ws.foldr (fun i o => upd o i (g i)) f) i = if i ∈ ws then g i else f i := by
  intro ws i
  induction ws with
  | nil => simp
  | cons j ws ih =>
    simp only [List.foldr_cons, upd]
    by_cases e : i = j
    · subst e; simp
    · simp [e, ih]

theorem unrel_cases (b : Nat) (v : AV) (obj : Nat → AObj) : unrelO b v obj = obj ∨ ∃ id cs r, obj id = .cells cs (some r) ∧ b ≤ id ∧ b ≤ r ∧ unrelO b v obj = upd (upd obj r .dead) id (.cells cs none) := by
  cases v with
  | sl id off len lo ex e =>
    simp only [unrelO]
    cases ho : obj id with
    | cells cs rel =>
      cases rel with
      | none => exact .inl rfl
      | some r =>
        simp only
        by_cases hc : b ≤ id ∧ b ≤ r
        · rw [if_pos hc]; exact .inr ⟨id, cs, r, ho, hc.1, hc.2, rfl⟩
        · rw [if_neg hc]; exact .inl rfl
    | _ => exact .inl rfl
  | _ => exact .inl rfl
theorem unrel_lt {b : Nat} {v : AV} {obj : Nat → AObj} {i : Nat} (h : i < b) : unrelO b v obj i = obj i := by
  rcases unrel_cases b v obj with e | ⟨id, cs, r, ho, h1, h2, e⟩
  · rw [e]
  · rw [e]; simp only [upd]; rw [if_neg (by omega), if_neg (by omega)]
theorem astep_wrap {H1 H3 : Heap} {v : AV} (h : AStep H1.begin H3) : AStep H1 (wrapA H1 v H3).2 := by
  have hb : H3.base = H1.next := h.base
  have hn : H1.next ≤ H3.next := h.next
  have hw : H1.wc ≤ H3.wc := h.wc
  have ho : ∀ i, i < H1.next → H3.obj i = H1.obj i ∨ i ∈ H3.ws := by
    intro i hi
    rcases h.obj i hi with h1 | ⟨h1, _⟩
    · exact .inl h1
    · exact .inr (h1 hi)
  unfold wrapA
  split
  · rename_i hws
    split
    · exact AStep.refl _
    · refine ⟨hn, rfl, Nat.le_refl _, fun _ h => h, fun i hi => .inl ?_⟩
      simp only [unrel_lt hi]
      rcases ho i hi with h1 | h1
      · exact h1
      · rw [hws] at h1; cases h1
  · split
    · refine ⟨Nat.le_refl _, rfl, by simp, fun i hi => by simp [hi], fun i hi => ?_⟩
      simp only [foldr_upd]
      by_cases hm : i ∈ H3.ws
      · right; exact ⟨fun h => by simp [hm, h], by simp⟩
      · left; rw [if_neg hm]
    · refine ⟨hn, rfl, by simp, fun i hi => by simp [hi], fun i hi => ?_⟩
      simp only [unrel_lt hi]
      rcases ho i hi with h1 | h1
      · exact .inl h1
      · right; exact ⟨fun h => by simp [h1, h], by simp⟩

theorem astep_fin {fd : AFn} {H1 H2 H' : Heap} {σ : Sig} {v : AV} (h : AStep H1.begin H2) (hf : finA fd H1 σ H2 = some (v, H')) : AStep H1 H' := by
  unfold finA at hf
  split at hf
  · cases hf
  · split at hf
    · cases hf
    · rename_i v' H3 h3
      simp only [Option.some.injEq] at hf
      have : AStep H2 H3 := by
        split at h3
        · exact astep_frz _ _ _ _ _ _ h3
        · cases h3; exact AStep.refl _
      have := astep_wrap (v := v') (h.trans this)
      rw [hf] at this
      exact this

theorem relax_cases (H : Heap) (v : AV) : relax H v = H ∨ ∃ id cs r, H.obj id = .cells cs (some r) ∧ H.base ≤ id ∧ H.base ≤ r ∧ relax H v = (H.set r .dead).set id (.cells cs none) := by
  unfold relax
  split
  · split
    · split
      · rename_i h; exact .inr ⟨_, _, _, by assumption, h.1, h.2, rfl⟩
      · exact .inl rfl
    · exact .inl rfl
  · exact .inl rfl
theorem astep_relax (H : Heap) (v : AV) : AStep H (relax H v) := by
  rcases relax_cases H v with e | ⟨id, cs, r, _, _, _, e⟩
  · rw [e]; exact AStep.refl H
  · rw [e]; exact (AStep.set _ _ _).trans (AStep.set _ _ _)
theorem astep_relaxL (b : Bool) (args : List AV) (H : Heap) : AStep H (relaxL b args H) := by
  unfold relaxL
  split
  · induction args generalizing H with
    | nil => exact AStep.refl H
    | cons v l ih => exact (astep_relax H v).trans (ih _)
  · exact AStep.refl H
theorem astep_call (T : Nat → Option AFn) : ∀ n, CallA (evalCall T n) := by
  intro n
  induction n with
  | zero => intro g args H v H' h; cases h
  | succ n ih =>
    intro g args H v H' h
    simp only [evalCall] at h
    split at h
    · cases h
    · rename_i fd hfd
      split at h
      · split at h
        · cases h
        · rename_i args' H1 ha
          have h1 : AStep H H1 := by
            split at ha
            · exact astep_frzL (astep_frz _ _) _ _ ha
            · cases ha; exact astep_relaxL _ _ _
          obtain ⟨e, σ', H2, h2, h3⟩ := astep_code ih fd.body _ _ _ h
          cases e with
          | nrm => exact h1.trans (astep_fin h2 h3)
          | exit i => cases h3
          | ret => exact h1.trans (astep_fin h2 h3)
      · cases h
end Go.Mach
