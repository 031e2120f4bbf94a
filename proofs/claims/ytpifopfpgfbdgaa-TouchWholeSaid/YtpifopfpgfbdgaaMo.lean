/-
  Results, freezing. By an AI agent.
-/
import Derived.Test.YtpifopfpgfbdgaaMn
import Derived.Laws.Sem
set_option linter.unusedSimpArgs false
set_option linter.unusedVariables false
namespace Go.Mach

/-! ### Freezing -/
theorem frzL_len {fz : Heap → AV → R} : ∀ (l : List AV) (H : Heap) {l' : List AV} {H' : Heap}, frzL fz l H = some (l', H') → l'.length = l.length := by
  intro l
  induction l with
  | nil => intro H l' H' h; cases h; rfl
  | cons v l ih =>
    intro H l' H' h
    simp only [frzL] at h
    split at h
    · cases h
    · split at h
      · cases h
      · rename_i h2
        cases h
        simp [ih _ h2]

def FzOK (fz : Heap → AV → R) (w : World) : Prop := ∀ (M : Mem) (ρ : Rho) (H : Heap) (v v' : AV) (H' : Heap) (d : Value), fz H v = some (v', H') → Rel M ρ H w → VRel M ρ v d → ∃ M', Step M ρ H w M' ρ H' w ∧ VRel M' ρ v' d

theorem frzL_sound {fz : Heap → AV → R} {w : World} (hf : FzOK fz w) : ∀ (l : List AV) (M : Mem) (ρ : Rho) (H : Heap) (l' : List AV) (H' : Heap) (g : Nat → Value), frzL fz l H = some (l', H') → Rel M ρ H w → (∀ i (h : i < l.length), VRel M ρ l[i] (g i)) →
    ∃ M', Step M ρ H w M' ρ H' w ∧ ∀ i (h : i < l'.length), VRel M' ρ l'[i] (g i) := by
  intro l
  induction l with
  | nil => intro M ρ H l' H' g h hR _; cases h; exact ⟨M, Step.refl hR, fun i h => absurd h (by simp)⟩
  | cons v l ih =>
    intro M ρ H l' H' g h hR hg
    simp only [frzL] at h
    split at h
    · cases h
    · rename_i v' H1 h1
      split at h
      · cases h
      · rename_i r H2 h2
        cases h
        obtain ⟨M1, s1, v1⟩ := hf M ρ H v v' H1 (g 0) h1 hR (hg 0 (by simp))
        obtain ⟨M2, s2, v2⟩ := ih M1 ρ H1 r _ (fun i => g (i + 1)) h2 s1.rel (fun i hi => (hg (i + 1) (by simp; omega)).mono s1.mem s1.rho)
        refine ⟨M2, s1.trans s2, fun i hi => ?_⟩
        cases i with
        | zero => exact v1.mono s2.mem s2.rho
        | succ i => exact v2 i (by simpa using hi)

theorem frz_cell (b : Nat) : ∀ (n : Nat) (H : Heap) (v v' : AV) (H' : Heap), frz b n H v = some (v', H') → v.isCell = true → v'.isCell = true := by
  intro n H v v' H' h hc
  cases n with
  | zero => cases h
  | succ n =>
    unfold frz at h
    (repeat' split at h) <;> first | (cases h; done) | (cases h; rfl) | (cases h; exact hc) | (simp [AV.isCell] at hc)

theorem frzL_cell {fz : Heap → AV → R} (hf : ∀ H v v' H', fz H v = some (v', H') → v.isCell = true → v'.isCell = true) : ∀ (l : List AV) (H : Heap) (l' : List AV) (H' : Heap), frzL fz l H = some (l', H') → (∀ i (h : i < l.length), l[i].isCell = true) → ∀ i (h : i < l'.length), l'[i].isCell = true := by
  intro l
  induction l with
  | nil => intro H l' H' h _; cases h; intro i hi; simp at hi
  | cons v l ih =>
    intro H l' H' h hc
    simp only [frzL] at h
    split at h
    · cases h
    · rename_i v' H1 h1
      split at h
      · cases h
      · rename_i r H2 h2
        cases h
        intro i hi
        cases i with
        | zero => exact hf _ _ _ _ h1 (hc 0 (by simp))
        | succ i => exact ih _ _ _ h2 (fun j hj => hc (j + 1) (by simp; omega)) i (by simpa using hi)

theorem kill_set {H : Heap} {i : Nat} {cs : List AV} {rel : Option Nat} (h : H.obj i = .cells cs rel) (o : AObj) : (H.kill rel).set i o = H.over i o := by
  simp [Heap.over, h, AObj.relOf]

theorem vec_of {M : Mem} {ρ : Rho} {cs : List AV} {c : Array Value} {T : TypeId} {mk : Nat × Nat} {b off len lo cap e : Nat} {ex : Bool} (h : M b = some (.cells c T mk)) (hl : cs.length ≤ c.size) (hc : CRel M noRho cs c) (hin : off + len * e ≤ cs.length) (hlo : len ≤ lo) (hcap : lo ≤ cap) (hex : ex = true → cap = lo) :
    VRel M ρ (.vec len (ex && lo == len) ((cs.drop off).take (len * e))) (.slice (some ⟨b, off, none⟩) len cap) := by
  have hlen : ((cs.drop off).take (len * e)).length = len * e := by rw [List.length_take, List.length_drop]; omega
  refine .vec len cap _ off h (by rw [hlen]; omega) (fun i h1 => ?_) (fun i h1 h2 => ?_) (fun h => ?_) (by omega)
  · rw [hlen] at h1
    rw [List.getElem_take, List.getElem_drop]
    exact (hc (off + i) (by omega) (by omega)).1
  · rw [hlen] at h1
    rw [List.getElem_take, List.getElem_drop]
    exact (hc (off + i) (by omega) h2).2
  · simp only [Bool.and_eq_true, beq_iff_eq] at h
    rw [hex h.1, h.2]

theorem frz_sound (b : Nat) (w : World) : ∀ n, FzOK (frz b n) w := by
  intro n
  induction n with
  | zero => intro M ρ H v v' H' d h; cases h
  | succ n ih =>
    intro M ρ H v v' H' d h hR hv
    unfold frz at h
    split at h
    · rename_i id off len lo ex e
      split at h
      · cases h; exact ⟨M, Step.refl hR, hv⟩
      · cases hv with
        | sl _ _ _ cap _ _ hid hlo hex hsz =>
        rename_i blk sz
        split at h
        · rename_i cs rel hob
          have hobj := hR.obj id blk sz hid
          rw [hob] at hobj
          obtain ⟨g1, c, T, mk, g2, g3, g4, g5, g6⟩ := hobj
          split at h
          · rename_i hpure
            split at h
            · rename_i hb
              cases h
              rw [kill_set hob]
              have hp : ∀ i (h : i < cs.length), cs[i].pure = true := fun i h => by
                rw [List.all_eq_true] at hpure; exact hpure _ (List.getElem_mem h)
              obtain ⟨M', s, hM'⟩ := Step.freeze hR id cs cs rel hob (fun b' sz' hi => by rw [hid] at hi; cases hi; exact g5) (fun b' sz' c' T' mk' hi hw => by
                rw [hid] at hi; cases hi
                rw [g2] at hw; cases hw
                exact fun i h1 h2 => ⟨(g6 i h1 h2).1, (g6 i h1 h2).2.pure (hp i h1)⟩)
              obtain ⟨c', T', mk', k1, k2, k3, k4⟩ := hM' blk sz hid
              exact ⟨M', s, vec_of k1 (by omega) k4 hb.1 hb.2 hlo hex⟩
            · cases h
          · split at h
            · cases h
            · rename_i cs' H1 h1
              obtain ⟨M1, s1, v1⟩ := frzL_sound ih cs M ρ H cs' H1 (fun i => c[i]?.getD undef) h1 hR (fun i hi => by
                have := (g6 i hi (by omega)).2
                rw [Array.getElem?_eq_getElem (by omega)]
                exact this)
              split at h
              · rename_i hpc
                simp only [Bool.and_eq_true, List.all_eq_true] at hpc
                split at h
                · rename_i cs1 rel1 hob1
                  split at h
                  · rename_i hb
                    cases h
                    rw [kill_set hob1]
                    obtain ⟨M', s, hM'⟩ := Step.freeze s1.rel id cs1 cs' rel1 hob1 (fun b' sz' hi => by rw [hid] at hi; cases hi; omega) (fun b' sz' c' T' mk' hi hw => by
                      rw [hid] at hi; cases hi
                      rw [g2] at hw; cases hw
                      intro i h1 h2
                      refine ⟨hpc.2 _ (List.getElem_mem h1), ?_⟩
                      have := v1 i h1
                      rw [Array.getElem?_eq_getElem h2] at this
                      exact VRel.pure this (hpc.1 _ (List.getElem_mem h1)))
                    obtain ⟨c', T', mk', k1, k2, k3, k4⟩ := hM' blk sz hid
                    exact ⟨M', s1.trans s, vec_of k1 (by omega) k4 (by omega) hb.2.2 hlo hex⟩
                  · cases h
                · cases h
              · cases h
        · rename_i cs hob
          have hobj := hR.obj id blk sz hid
          rw [hob] at hobj
          obtain ⟨c, T, mk, g2, g4, g5, g6⟩ := hobj
          split at h
          · rename_i hb
            cases h
            exact ⟨M, Step.refl hR, vec_of g2 (by omega) g6 hb.1 hb.2 hlo hex⟩
          · cases h
        · cases h
    · rename_i cs
      split at h
      · rename_i cs' H1 h1
        cases h
        cases hv with
        | agg hl hp hc =>
        rename_i ds
        obtain ⟨M1, s1, v1⟩ := frzL_sound ih cs M ρ H cs' H' (fun i => ds[i]?.getD undef) h1 hR (fun i hi => by
          have := hc i hi (by omega)
          rw [Array.getElem?_eq_getElem (by omega)]
          exact this)
        refine ⟨M1, s1, .agg (by rw [frzL_len _ _ h1]; exact hl) (frzL_cell (frz_cell b n) _ _ _ _ h1 hp) fun i k1 k2 => ?_⟩
        have := v1 i k1
        rw [Array.getElem?_eq_getElem k2] at this
        exact this
      · cases h
    · rename_i cs
      split at h
      · rename_i cs' H1 h1
        cases h
        cases hv with
        | tup hl hc =>
        rename_i ds
        obtain ⟨M1, s1, v1⟩ := frzL_sound ih cs M ρ H cs' H' (fun i => ds[i]?.getD undef) h1 hR (fun i hi => by
          have := hc i hi (by omega)
          rw [Array.getElem?_eq_getElem (by omega)]
          exact this)
        refine ⟨M1, s1, .tup (by rw [frzL_len _ _ h1]; exact hl) fun i k1 k2 => ?_⟩
        have := v1 i k1
        rw [Array.getElem?_eq_getElem k2] at this
        exact this
      · cases h
    · cases h; exact ⟨M, Step.refl hR, hv⟩

/-! ### Results -/
def trRes (P : Program) : ResultVar → Option ARes
  | .tmp t => some (.tmp t)
  | .cell a t => match aggOf P t, P.info? t with
    | some agg, some i => some (.cell a agg i.size)
    | _, _ => none

def trRess (P : Program) : List ResultVar → Option (List ARes)
  | [] => some []
  | r :: rs => match trRes P r, trRess P rs with
    | some a, some as => some (a :: as)
    | _, _ => none

def resOne (tmps : Array Value) : ResultVar → Sem Value
  | .tmp t => pure (tmps.getD t undef)
  | .cell a t => do loadVar t (← asAddr (tmps.getD a undef))

theorem load_var {P : Program} {w : World} {t : TypeId} {d r : Value} (h : (Instr.loadAt t d).run P w = .ok r w) : (do loadVar t (← asAddr d) : Sem Value).run P w = .ok r w := by
  unfold Instr.loadAt at h
  cases d <;> simp only [Instr.sureAddr, asAddr] at h ⊢ <;> try (simp at h; done)
  rename_i a
  cases a with
  | none => simp at h
  | some a => simpa using h

theorem resOne_rel {P : Program} {M : Mem} {ρ : Rho} {H : Heap} {w : World} {σ : Sig} {tmps : Array Value} (hR : Rel M ρ H w) (hT : TRel M ρ σ tmps) {r : ResultVar} {a : ARes} (ht : trRes P r = some a) {v : AV} (h : resA σ H a = some v) :
    ∃ v', (resOne tmps r).run P w = .ok v' w ∧ VRel M ρ v v' := by
  cases r with
  | tmp t =>
    cases ht; cases h
    exact ⟨_, by simp [resOne], hT t⟩
  | cell ad t =>
    simp only [trRes] at ht
    split at ht
    · rename_i agg i hg hi
      cases ht
      simp only [resA] at h
      obtain ⟨r', h1, h2⟩ := loadA_rel hR hg hi (hT ad) h
      exact ⟨r', load_var h1, h2⟩
    · cases ht

theorem ress_rel {P : Program} {M : Mem} {ρ : Rho} {H : Heap} {w : World} {σ : Sig} {tmps : Array Value} (hR : Rel M ρ H w) (hT : TRel M ρ σ tmps) : ∀ (rs : List ResultVar) (as : List ARes) (vs : List AV), trRess P rs = some as → resL σ H as = some vs →
    ∃ ds : List Value, (rs.mapM (resOne tmps)).run P w = .ok ds w ∧ ds.length = vs.length ∧ ∀ i (h1 : i < vs.length) (h2 : i < ds.length), VRel M ρ vs[i] ds[i] := by
  intro rs
  induction rs with
  | nil => intro as vs ht h; cases ht; cases h; exact ⟨[], by simp, rfl, fun i h => absurd h (by simp)⟩
  | cons r rs ih =>
    intro as vs ht h
    simp only [trRess] at ht
    split at ht
    · rename_i a as' ha has
      cases ht
      simp only [resL] at h
      split at h
      · cases h
      · rename_i v hv
        split at h
        · cases h
        · rename_i vs' hvs
          cases h
          obtain ⟨v', h1, h2⟩ := resOne_rel hR hT ha hv
          obtain ⟨ds, h3, h4, h5⟩ := ih as' vs' has hvs
          refine ⟨v' :: ds, by simp [List.mapM_cons, h1, h3], by simp [h4], fun i k1 k2 => ?_⟩
          cases i with
          | zero => exact h2
          | succ i => exact h5 i (by simpa using k1) (by simpa using k2)
    · cases ht

theorem results_rel {P : Program} {M : Mem} {ρ : Rho} {H : Heap} {w : World} {σ : Sig} {tmps : Array Value} (hR : Rel M ρ H w) (hT : TRel M ρ σ tmps) {fn : Func} {as : List ARes} (ht : trRess P fn.results.toList = some as) {vs : List AV} (h : resL σ H as = some vs) :
    ∃ d, (results fn tmps).run P w = .ok d w ∧ VRel M ρ (tupA vs) d := by
  obtain ⟨ds, h1, h2, h3⟩ := ress_rel hR hT _ _ _ ht h
  have hrun : (fn.results.mapM (resOne tmps)).run P w = .ok ds.toArray w := by
    rw [Array.mapM_eq_mapM_toList]
    simp [h1]
  have hres : results fn tmps = (do let vs ← fn.results.mapM (resOne tmps); pure (if h : vs.size = 1 then vs[0] else .tuple vs)) := by
    unfold results
    have : (fun x => match x with
      | .tmp t => pure (tmps.getD t undef)
      | .cell a t => do loadVar t (← asAddr (tmps.getD a undef)) : ResultVar → Sem Value) = resOne tmps := by
      funext r
      cases r <;> rfl
    first | rfl | (rw [← this]; rfl)
  refine ⟨if h : ds.toArray.size = 1 then ds.toArray[0] else .tuple ds.toArray, ?_, ?_⟩
  · rw [hres]
    simp only [Sem.run_bind, hrun, Result.andThen_ok, Sem.run_pure]
  · by_cases e : ds.toArray.size = 1
    · rw [dif_pos e]
      have : vs.length = 1 := by simpa [h2] using e
      have e' : ds.length = 1 := by simpa using e
      match vs, this, h3 with
      | [v], _, h3 =>
        have := h3 0 (Nat.zero_lt_one) (by omega)
        simpa [tupA] using this
    · rw [dif_neg e]
      have hne : vs.length ≠ 1 := by simpa [h2] using e
      have : tupA vs = .tup vs := by
        match vs, hne with
        | [], _ => rfl
        | [v], h => exact absurd rfl h
        | _ :: _ :: _, _ => rfl
      rw [this]
      exact .tup (by simp [h2]) fun i k1 k2 => by simpa using h3 i k1 (by simpa using k2)
end Go.Mach
