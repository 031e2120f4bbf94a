/-
  The machine without a bound on rounds and on calls ('callI', 'evalI'), and that its answers are answers with a bound. By an AI agent.
-/
import Derived.Test.YtlbihaiejbpjoaaGreatMr
set_option linter.unusedSimpArgs false
set_option linter.unusedVariables false
namespace Go.Mach

/-- What is so from some place on. -/
structure Evl (ι : Type) where
  ev : (ι → Prop) → Prop
  mono : ∀ {p q : ι → Prop}, (∀ i, p i → q i) → ev p → ev q
  and : ∀ {p q : ι → Prop}, ev p → ev q → ev (fun i => p i ∧ q i)
  top : ev fun _ => True

def Evl.one : Evl Unit := ⟨fun p => p (), fun h hp => h _ hp, fun a b => ⟨a, b⟩, trivial⟩
def Evl.nat : Evl Nat := ⟨fun p => ∃ N, ∀ n, N ≤ n → p n, fun h ⟨N, hN⟩ => ⟨N, fun n hn => h n (hN n hn)⟩,
  fun ⟨N, hN⟩ ⟨M, hM⟩ => ⟨max N M, fun n hn => ⟨hN n (by omega), hM n (by omega)⟩⟩, ⟨0, fun _ _ => trivial⟩⟩
def Evl.pair {ι : Type} (E : Evl ι) : Evl (ι × Nat) := ⟨fun p => ∃ N, E.ev fun i => ∀ j, N ≤ j → p (i, j), fun h ⟨N, hN⟩ => ⟨N, E.mono (fun i hi j hj => h _ (hi j hj)) hN⟩,
  fun ⟨N, hN⟩ ⟨M, hM⟩ => ⟨max N M, E.mono (fun i hi j hj => ⟨hi.1 j (by omega), hi.2 j (by omega)⟩) (E.and hN hM)⟩, ⟨0, E.mono (fun _ _ _ _ => trivial) E.top⟩⟩

theorem evalOps_cont {ι : Type} (E : Evl ι) {call : CallFn} {cs : ι → CallFn} (hc : ∀ f args H r, call f args H = some r → E.ev fun i => cs i f args H = some r) :
    ∀ (l : List AOper) (K : Sig → Heap → R) (k : ι → Sig → Heap → R), (∀ σ H r, K σ H = some r → E.ev fun i => k i σ H = some r) → ∀ σ H r, evalOps call l K σ H = some r → E.ev fun i => evalOps (cs i) l (k i) σ H = some r := by
  intro l
  induction l with
  | nil => intro K k hk σ H r h; exact hk σ H r h
  | cons o os ih =>
    intro K k hk σ H r h
    simp only [evalOps] at h ⊢
    by_cases hw : wantedA σ o.guard = true
    · simp only [hw, if_true] at h ⊢
      cases hs : stepA call (ev σ) H o.op with
      | none => rw [hs] at h; cases h
      | some p =>
        obtain ⟨v, H'⟩ := p
        rw [hs] at h
        simp only at h
        have hs' : E.ev fun i => stepA (cs i) (ev σ) H o.op = some (v, H') := by
          cases hop : o.op with
          | call g args =>
            rw [hop] at hs
            simp only [stepA] at hs ⊢
            split at hs
            · exact hc _ _ _ _ hs
            · cases hs
          | _ => rw [hop] at hs; exact E.mono (fun i _ => hs) E.top
        by_cases hb : (o.solo || H'.wc == H.wc) = true
        · simp only [hb, if_true] at h
          have := ih K k hk _ _ _ h
          refine E.mono (fun i hi => ?_) (E.and hs' this)
          rw [hi.1]
          simp only [hb, if_true]
          exact hi.2
        · simp only [hb, if_false] at h; cases h
    · simp only [hw, if_false] at h ⊢
      exact ih K k hk _ _ _ h

def BMono (body : KF → Sig → Heap → R) : Prop := ∀ K1 K2 : KF, (∀ e σ H r, K1 e σ H = some r → K2 e σ H = some r) → ∀ σ H r, body K1 σ H = some r → body K2 σ H = some r

theorem loopK_mono {body : KF → Sig → Heap → R} (hb : BMono body) : ∀ m m', m ≤ m' → ∀ k σ H r, loopK body m k σ H = some r → loopK body m' k σ H = some r := by
  intro m
  induction m with
  | zero => intro m' _ k σ H r h; cases h
  | succ m ih =>
    intro m' hm k σ H r h
    obtain ⟨m', rfl⟩ : ∃ x, m' = x + 1 := ⟨m' - 1, by omega⟩
    simp only [loopK] at h ⊢
    refine hb _ _ (fun e σ H r he => ?_) σ H r h
    cases e with
    | nrm => exact ih m' (by omega) k σ H r he
    | _ => exact he

open Classical in
noncomputable def loopI (body : KF → Sig → Heap → R) (k : KF) (σ : Sig) (H : Heap) : R := if h : ∃ m r, loopK body m k σ H = some r then some h.choose_spec.choose else none

theorem loopI_ex {body : KF → Sig → Heap → R} {k : KF} {σ : Sig} {H : Heap} {r : AV × Heap} (h : loopI body k σ H = some r) : ∃ m, loopK body m k σ H = some r := by
  unfold loopI at h
  split at h
  · rename_i hx
    have := hx.choose_spec.choose_spec
    simp only [Option.some.injEq] at h
    exact ⟨_, by rw [this, h]⟩
  · cases h
theorem loopI_of {body : KF → Sig → Heap → R} (hb : BMono body) {m : Nat} {k : KF} {σ : Sig} {H : Heap} {r : AV × Heap} (h : loopK body m k σ H = some r) : loopI body k σ H = some r := by
  unfold loopI
  have hx : ∃ m r, loopK body m k σ H = some r := ⟨m, r, h⟩
  rw [dif_pos hx]
  have h2 := hx.choose_spec.choose_spec
  have h3 := loopK_mono hb _ (max m hx.choose) (by omega) k σ H r h
  have h4 := loopK_mono hb _ (max m hx.choose) (by omega) k σ H _ h2
  rw [h3] at h4
  exact h4.symm

noncomputable def evalI (call : CallFn) : ACode → KF → Sig → Heap → R
  | .skip, k, σ, H => k .nrm σ H
  | .ops l, k, σ, H => evalOps call l (k .nrm) σ H
  | .seq a b, k, σ, H => evalI call a (fun e σ H => match e with
    | .nrm => evalI call b k σ H
    | e => k e σ H) σ H
  | .cond c x y, k, σ, H => match ev σ c with
    | .bool t => if t then evalI call x k σ H else evalI call y k σ H
    | _ => none
  | .block id c, k, σ, H => evalI call c (fun e σ H => match e with
    | .exit i => if i = id then k .nrm σ H else k (.exit i) σ H
    | e => k e σ H) σ H
  | .loop c, k, σ, H => loopI (evalI call c) k σ H
  | .exit id, k, σ, H => k (.exit id) σ H
  | .ret, k, σ, H => k .ret σ H

theorem evalI_cont {call : CallFn} (c : ACode) : ∀ (ι : Type) (E : Evl ι) (K : KF) (k : ι → KF), (∀ e σ H r, K e σ H = some r → E.ev fun i => k i e σ H = some r) → ∀ σ H r, evalI call c K σ H = some r → E.ev fun i => evalI call c (k i) σ H = some r := by
  induction c with
  | skip => intro ι E K k hk σ H r h; exact hk _ _ _ _ h
  | exit id => intro ι E K k hk σ H r h; exact hk _ _ _ _ h
  | ret => intro ι E K k hk σ H r h; exact hk _ _ _ _ h
  | ops l => intro ι E K k hk σ H r h; exact evalOps_cont E (cs := fun _ => call) (fun f a H r h => E.mono (fun _ _ => h) E.top) l _ _ (fun σ H r h => hk _ _ _ _ h) σ H r h
  | seq a b iha ihb =>
    intro ι E K k hk σ H r h
    refine iha ι E _ _ (fun e σ H r he => ?_) σ H r h
    cases e with
    | nrm => exact ihb ι E K k hk σ H r he
    | _ => exact hk _ _ _ _ he
  | cond c x y ihx ihy =>
    intro ι E K k hk σ H r h
    simp only [evalI] at h ⊢
    split at h
    · rename_i t ht
      cases t with
      | true => exact ihx ι E K k hk σ H r h
      | false => exact ihy ι E K k hk σ H r h
    · cases h
  | block id c ih =>
    intro ι E K k hk σ H r h
    refine ih ι E _ _ (fun e σ H r he => ?_) σ H r h
    cases e with
    | exit i =>
      simp only at he ⊢
      split at he
      · rename_i hi; simp only [hi, if_true]; exact hk _ _ _ _ he
      · rename_i hi; simp only [hi, if_false]; exact hk _ _ _ _ he
    | _ => exact hk _ _ _ _ he
  | loop c ih =>
    intro ι E K k hk σ H r h
    have hb : BMono (evalI call c) := fun K1 K2 h12 σ H r h => ih Unit .one K1 (fun _ => K2) h12 σ H r h
    obtain ⟨m, hm⟩ := loopI_ex h
    refine E.mono (fun i hi => loopI_of hb (m := m) hi) ?_
    clear h
    induction m generalizing σ H r with
    | zero => cases hm
    | succ m ihm =>
      refine ih ι E _ _ (fun e σ H r he => ?_) σ H r hm
      cases e with
      | nrm => exact ihm σ H r he
      | _ => exact hk _ _ _ _ he

theorem evalI_mono {call : CallFn} (c : ACode) : BMono (evalI call c) := fun K1 K2 h12 σ H r h => evalI_cont c Unit .one K1 (fun _ => K2) h12 σ H r h

theorem loopI_eq {call : CallFn} {c : ACode} {k : KF} {σ : Sig} {H : Heap} : loopI (evalI call c) k σ H = evalI call c (fun e σ H => match e with
    | .nrm => loopI (evalI call c) k σ H
    | e => k e σ H) σ H := by
  apply Option.ext
  intro r
  constructor
  · intro h
    obtain ⟨m, hm⟩ := loopI_ex h
    cases m with
    | zero => cases hm
    | succ m =>
      refine evalI_mono c _ _ (fun e σ H r he => ?_) σ H r hm
      cases e with
      | nrm => exact loopI_of (evalI_mono c) he
      | _ => exact he
  · intro h
    have := evalI_cont c Nat .nat _ (fun m => fun e σ H => match e with
      | .nrm => loopK (evalI call c) m k σ H
      | e => k e σ H) (fun e σ H r he => ?_) σ H r h
    · obtain ⟨N, hN⟩ := this
      exact loopI_of (evalI_mono c) (m := N + 1) (hN N (Nat.le_refl _))
    · cases e with
      | nrm =>
        obtain ⟨m, hm⟩ := loopI_ex he
        exact ⟨m, fun n hn => loopK_mono (evalI_mono c) m n hn k σ H r hm⟩
      | _ => exact ⟨0, fun n _ => he⟩

/-! ### With a bound: more of it gives the same answer -/
theorem evalK_mono {call call' : CallFn} (hc : ∀ f a H r, call f a H = some r → call' f a H = some r) {n n' : Nat} (hn : n ≤ n') (c : ACode) : ∀ K K' : KF, (∀ e σ H r, K e σ H = some r → K' e σ H = some r) → ∀ σ H r, evalK call n c K σ H = some r → evalK call' n' c K' σ H = some r := by
  induction c with
  | skip => intro K k hk σ H r h; exact hk _ _ _ _ h
  | exit id => intro K k hk σ H r h; exact hk _ _ _ _ h
  | ret => intro K k hk σ H r h; exact hk _ _ _ _ h
  | ops l => intro K k hk σ H r h; exact evalOps_cont .one (cs := fun _ => call') hc l _ (fun _ => k .nrm) (fun σ H r h => hk _ _ _ _ h) σ H r h
  | seq a b iha ihb =>
    intro K k hk σ H r h
    refine iha _ _ (fun e σ H r he => ?_) σ H r h
    cases e with
    | nrm => exact ihb K k hk σ H r he
    | _ => exact hk _ _ _ _ he
  | cond c x y ihx ihy =>
    intro K k hk σ H r h
    simp only [evalK] at h ⊢
    split at h
    · rename_i t ht
      cases t with
      | true => exact ihx K k hk σ H r h
      | false => exact ihy K k hk σ H r h
    · cases h
  | block id c ih =>
    intro K k hk σ H r h
    refine ih _ _ (fun e σ H r he => ?_) σ H r h
    cases e with
    | exit i =>
      simp only at he ⊢
      split at he
      · rename_i hi; simp only [hi, if_true]; exact hk _ _ _ _ he
      · rename_i hi; simp only [hi, if_false]; exact hk _ _ _ _ he
    | _ => exact hk _ _ _ _ he
  | loop c ih =>
    intro K k hk σ H r h
    simp only [evalK] at h ⊢
    have : ∀ m m', m ≤ m' → ∀ σ H r, loopK (evalK call n c) m K σ H = some r → loopK (evalK call' n' c) m' k σ H = some r := by
      intro m
      induction m with
      | zero => intro m' _ σ H r h; cases h
      | succ m ihm =>
        intro m' hm σ H r h
        obtain ⟨m', rfl⟩ : ∃ x, m' = x + 1 := ⟨m' - 1, by omega⟩
        refine ih _ _ (fun e σ H r he => ?_) σ H r h
        cases e with
        | nrm => exact ihm m' (by omega) σ H r he
        | _ => exact hk _ _ _ _ he
    exact this n n' hn σ H r h

theorem evalCall_mono {T : Nat → Option AFn} : ∀ n n', n ≤ n' → ∀ f args H r, evalCall T n f args H = some r → evalCall T n' f args H = some r := by
  intro n
  induction n with
  | zero => intro n' _ f args H r h; cases h
  | succ n ih =>
    intro n' hn f args H r h
    obtain ⟨n', rfl⟩ : ∃ x, n' = x + 1 := ⟨n' - 1, by omega⟩
    simp only [evalCall] at h ⊢
    split at h
    · cases h
    · rename_i fd hfd
      split at h
      · rename_i hl
        rw [if_pos hl]
        split at h
        · cases h
        · rename_i args' H1 hz
          exact evalK_mono (ih n' (by omega)) (by omega) _ _ _ (fun _ _ _ _ h => h) _ _ _ h
      · cases h

open Classical in
noncomputable def callI (T : Nat → Option AFn) : CallFn := fun f args H => if h : ∃ n r, evalCall T n f args H = some r then some h.choose_spec.choose else none

theorem callI_ex {T : Nat → Option AFn} {f : Nat} {args : List AV} {H : Heap} {r : AV × Heap} (h : callI T f args H = some r) : ∃ n, evalCall T n f args H = some r := by
  unfold callI at h
  split at h
  · rename_i hx
    have := hx.choose_spec.choose_spec
    simp only [Option.some.injEq] at h
    exact ⟨_, by rw [this, h]⟩
  · cases h
theorem callI_of {T : Nat → Option AFn} {n f : Nat} {args : List AV} {H : Heap} {r : AV × Heap} (h : evalCall T n f args H = some r) : callI T f args H = some r := by
  unfold callI
  have hx : ∃ n r, evalCall T n f args H = some r := ⟨n, r, h⟩
  rw [dif_pos hx]
  have h2 := hx.choose_spec.choose_spec
  have h3 := evalCall_mono _ (max n hx.choose) (by omega) f args H r h
  have h4 := evalCall_mono _ (max n hx.choose) (by omega) f args H _ h2
  rw [h3] at h4
  exact h4.symm

theorem evalI_K {T : Nat → Option AFn} (c : ACode) : ∀ (ι : Type) (E : Evl ι) (n : ι → Nat) (hn : ∀ N, E.ev fun i => N ≤ n i) (K : KF) (k : ι → KF), (∀ e σ H r, K e σ H = some r → E.ev fun i => k i e σ H = some r) →
    ∀ σ H r, evalI (callI T) c K σ H = some r → E.ev fun i => evalK (evalCall T (n i)) (n i) c (k i) σ H = some r := by
  induction c with
  | skip => intro ι E n hn K k hk σ H r h; exact hk _ _ _ _ h
  | exit id => intro ι E n hn K k hk σ H r h; exact hk _ _ _ _ h
  | ret => intro ι E n hn K k hk σ H r h; exact hk _ _ _ _ h
  | ops l =>
    intro ι E n hn K k hk σ H r h
    refine evalOps_cont E (cs := fun i => evalCall T (n i)) (fun f a H r h => ?_) l _ _ (fun σ H r h => hk _ _ _ _ h) σ H r h
    obtain ⟨N, hN⟩ := callI_ex h
    exact E.mono (fun i hi => evalCall_mono N _ hi _ _ _ _ hN) (hn N)
  | seq a b iha ihb =>
    intro ι E n hn K k hk σ H r h
    refine iha ι E n hn _ _ (fun e σ H r he => ?_) σ H r h
    cases e with
    | nrm => exact ihb ι E n hn K k hk σ H r he
    | _ => exact hk _ _ _ _ he
  | cond c x y ihx ihy =>
    intro ι E n hn K k hk σ H r h
    simp only [evalI, evalK] at h ⊢
    split at h
    · rename_i t ht
      simp only [ht]
      cases t with
      | true => exact ihx ι E n hn K k hk σ H r h
      | false => exact ihy ι E n hn K k hk σ H r h
    · cases h
  | block id c ih =>
    intro ι E n hn K k hk σ H r h
    refine ih ι E n hn _ _ (fun e σ H r he => ?_) σ H r h
    cases e with
    | exit i =>
      simp only at he ⊢
      split at he
      · rename_i hi; simp only [hi, if_true]; exact hk _ _ _ _ he
      · rename_i hi; simp only [hi, if_false]; exact hk _ _ _ _ he
    | _ => exact hk _ _ _ _ he
  | loop c ih =>
    intro ι E n hn K k hk σ H r h
    obtain ⟨m, hm⟩ := loopI_ex h
    have key : ∀ m σ H r, loopK (evalI (callI T) c) m K σ H = some r → E.pair.ev fun p => loopK (evalK (evalCall T (n p.1)) (n p.1) c) p.2 (k p.1) σ H = some r := by
      intro m
      induction m with
      | zero => intro σ H r h; cases h
      | succ m ihm =>
        intro σ H r h
        have := ih (ι × Nat) E.pair (fun p => n p.1) (fun N => ⟨0, E.mono (fun i hi j _ => hi) (hn N)⟩) _ (fun p => fun e σ H => match e with
          | .nrm => loopK (evalK (evalCall T (n p.1)) (n p.1) c) p.2 (k p.1) σ H
          | e => k p.1 e σ H) (fun e σ H r he => ?_) σ H r h
        · obtain ⟨N, hN⟩ := this
          refine ⟨N + 1, E.mono (fun i hi j hj => ?_) hN⟩
          obtain ⟨j, rfl⟩ : ∃ x, j = x + 1 := ⟨j - 1, by omega⟩
          exact hi j (by omega)
        · cases e with
          | nrm => exact ihm σ H r he
          | _ => exact ⟨0, E.mono (fun i hi j _ => hi) (hk _ _ _ _ he)⟩
    obtain ⟨N, hN⟩ := key m σ H r hm
    exact E.mono (fun i hi => hi.1 _ hi.2) (E.and hN (hn N))

/-- Entering a function's body. -/
theorem callI_body {T : Nat → Option AFn} {f : Nat} {fd : AFn} {args args' : List AV} {H H1 : Heap} {r : AV × Heap} (hf : T f = some fd) (hl : args.length ≤ fd.ntmps)
    (hz : (if fd.fzA then frzL (frz H.base 6) args H else some (args, relaxL fd.fzR args H)) = some (args', H1)) (h : evalI (callI T) fd.body (fink fd.res fd.fzR H1) (sigOf args') H1.begin = some r) : callI T f args H = some r := by
  obtain ⟨N, hN⟩ := evalI_K fd.body Nat .nat id (fun N => ⟨N, fun _ h => h⟩) _ (fun _ => fink fd.res fd.fzR H1) (fun e σ H r he => ⟨0, fun _ _ => he⟩) _ _ _ h
  refine callI_of (n := N + 1) ?_
  simp only [evalCall, hf, if_pos hl, hz]
  exact hN N (Nat.le_refl _)
end Go.Mach
