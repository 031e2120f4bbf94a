/-
  copy, clear; and every operation but a call. By an AI agent.
-/
import Derived.Test.YtpifopfpgfbdgaaMh
set_option linter.unusedSimpArgs false
set_option linter.unusedVariables false
namespace Go.Mach
variable {P : Program} {M : Mem} {ρ : Rho} {H H' : Heap} {w : World} {f : AOpd → AV} {e : Operand → Value} {o : Oper} {v : AV}

theorem src_take (hR : Rel M ρ H w) {k n m : Nat} {a : AV} {d : Value} {cs : List AV} (h : VRel M ρ a d) (hs : srcA H k a = some (n, cs)) (hm : m ≤ n) :
    ∃ ds : Array Value, (Builtin.firstCells k m d).run P w = .ok ds w ∧ ds.size = (cs.take (m * k)).length ∧ CRel M ρ (cs.take (m * k)) ds ∧ ∃ ad cap, d = .slice ad n cap := by
  obtain ⟨h1, ad, cap, rfl, h2, h3⟩ := src_rel hR h hs
  have hmk : m * k ≤ n * k := Nat.mul_le_mul_right _ hm
  rcases h2 with rfl | ⟨b, off, rfl, c, T, mk, g1, g2, g3⟩
  · have hz : m * k = 0 := by simp at h1; omega
    cases ad with
    | none => exact ⟨#[], by simp [Builtin.firstCells], by simp, (fun i h => absurd h (by simp)), _, _, rfl⟩
    | some ad => exact ⟨#[], by simp [Builtin.firstCells, hz, loadCells, loadCellsFrom], by simp, (fun i h => absurd h (by simp)), _, _, rfl⟩
  · refine ⟨c.extract off (off + m * k), by simp [Builtin.firstCells, run_cells g1 off (m * k) (by omega)], by simp; omega, fun i h4 h5 => ?_, _, _, rfl⟩
    simp only [List.length_take] at h4
    have := g3 i (by omega) (by omega)
    simpa using this

theorem hop_cpy {c : Call} {t u el : TypeId} {x y : Operand} {a b : AOpd} {ti : TypeInfo} (hR : Rel M ρ H w) (hr : Reads M ρ f e) (hop : o.op = .call c) (hc : c.callee = .builtin .copy) (hts : c.argTypes.toList = [t, u]) (has : c.args.toList = [x, y])
    (hx : trO x = some a) (hy : trO y = some b) (ht : P.underlying t = some (.slice el)) (hi : P.info? el = some ti) (h : heapA f H (.cpy ti.size a b) = some (v, H')) : Hop P M ρ H w e o v H' := by
  have hv := hr _ _ hx
  have hw := hr _ _ hy
  have key : ∀ d d' r w', e x = d → e y = d' → (Builtin.copy_ #[t, u] o.type #[d, d']).run P w = .ok r w' → (execOp e o).run P w = .ok (.value r) w' := by
    intro d d' r w' hd hd' hrun
    refine run_call_builtin hop hc (toList_two hts) (d := #[d, d']) (by rw [toList_two has]; simp [hd, hd']) w' fun cs => ?_
    simp only [builtin, Sem.run_bind, hrun, Result.andThen_ok, Sem.run_pure]
  simp only [heapA] at h
  generalize f a = fa at h hv
  generalize hd : e x = d at hv
  split at h
  · rename_i n cs id off len lo ex e' hsrc
    split at h
    · rename_i hee
      subst hee
      split at h
      · rename_i ds rel ho
        split at h
        · rename_i hle
          cases h
          cases hv with
          | sl off len lo cap ex e' hid hlo hex hsz =>
            obtain ⟨news, s1, s2, s3, ad, cap', hd'⟩ := src_take (P := P) hR hw hsrc (m := min n len) (Nat.min_le_left _ _)
            obtain ⟨w', r1, r2⟩ := Step.put (P := P) hR hid ho off (xs := cs.take (min n len * ti.size)) (ds := news.toList) (by simp [s2]) (fun i h1 h2 => by
              have := s3 i h1 (by simpa using h2)
              rwa [← Array.getElem_toList] at this) (by simp; omega)
            refine ⟨M, ρ, w', r2, .inl ⟨goInt (min n len : Nat), key _ _ _ _ hd rfl ?_, .int _ _⟩⟩
            have hl : (Builtin.lenOf (e y)).run P w = .ok n w := by rw [hd']; rfl
            simp only [Builtin.copy_, List.getElem?_toArray, List.getElem?_cons_zero, List.getElem?_cons_succ, Sem.run_bind, run_und ht, Result.andThen_ok, hl, run_size hi, s1, r1, Sem.run_pure]
        · cases h
      · cases h
    · cases h
  · rename_i r hsrc
    obtain ⟨n, cs⟩ := r
    cases h
    cases hv
    obtain ⟨news, s1, s2, s3, ad, cap', hd'⟩ := src_take (P := P) hR hw hsrc (m := 0) (Nat.zero_le _)
    refine ⟨M, ρ, w, Step.refl hR, .inl ⟨goInt (0 : Nat), key _ _ _ _ hd rfl ?_, .int _ _⟩⟩
    have hl : (Builtin.lenOf (e y)).run P w = .ok n w := by rw [hd']; rfl
    simp only [Builtin.copy_, List.getElem?_toArray, List.getElem?_cons_zero, List.getElem?_cons_succ, Sem.run_bind, run_und ht, Result.andThen_ok, hl, run_size hi, Nat.min_zero, s1, Sem.run_pure]
  · rename_i r ex cs0 hsrc
    obtain ⟨n, cs⟩ := r
    cases h
    obtain ⟨news, s1, s2, s3, ad, cap', hd'⟩ := src_take (P := P) hR hw hsrc (m := 0) (Nat.zero_le _)
    have hn0 : news = #[] := Array.eq_empty_of_size_eq_zero (by rw [s2]; simp)
    have hl : (Builtin.lenOf (e y)).run P w = .ok n w := by rw [hd']; rfl
    refine ⟨M, ρ, w, Step.refl hR, .inl ⟨goInt (0 : Nat), ?_, .int _ _⟩⟩
    cases hv <;>
    · refine key _ _ _ _ hd rfl ?_
      simp only [Builtin.copy_, List.getElem?_toArray, List.getElem?_cons_zero, List.getElem?_cons_succ, Sem.run_bind, run_und ht, Result.andThen_ok, hl, run_size hi, Nat.min_zero, s1, Sem.run_pure, hn0, storeCells]
  · cases h

theorem hop_clr {c : Call} {t el : TypeId} {x : Operand} {a : AOpd} {ti : TypeInfo} {z : List AV} (hR : Rel M ρ H w) (hr : Reads M ρ f e) (hop : o.op = .call c) (hc : c.callee = .builtin .clear) (hts : c.argTypes.toList = [t]) (has : c.args.toList = [x])
    (hx : trO x = some a) (ht : P.underlying t = some (.slice el)) (hi : P.info? el = some ti) (hz : zeroOf P el = some z) (h : heapA f H (.clr ti.size z a) = some (v, H')) : Hop P M ρ H w e o v H' := by
  have hv := hr _ _ hx
  obtain ⟨i, zv, z1, z2, z3, z4, z5, _⟩ := zeroOf_rel (M := M) (ρ := ρ) hz
  rw [hi] at z1; cases z1
  have key : ∀ d w', e x = d → (Builtin.clear_ #[t] o.type #[d]).run P w = .ok (.tuple #[]) w' → (execOp e o).run P w = .ok (.value (.tuple #[])) w' := by
    intro d w' hd hrun
    refine run_call_builtin hop hc (toList_one hts) (d := #[d]) (by rw [toList_one has]; simp [hd]) w' fun cs => ?_
    simp only [builtin, Sem.run_bind, hrun, Result.andThen_ok, Sem.run_pure]
  have ht0 : VRel M ρ undefA (.tuple #[]) := .tup rfl fun i h => absurd h (by simp)
  simp only [heapA] at h
  generalize f a = fa at h hv
  generalize hd : e x = d at hv
  split at h
  · cases h; cases hv
    exact ⟨M, ρ, w, Step.refl hR, .inl ⟨_, key _ _ hd (by simp [Builtin.clear_, run_und ht]), ht0⟩⟩
  · cases h
    refine ⟨M, ρ, w, Step.refl hR, .inl ⟨_, ?_, ht0⟩⟩
    cases hv <;> exact key _ _ hd (by simp [Builtin.clear_, run_und ht])
  · rename_i id off n lo ex e'
    split at h
    · rename_i hee
      subst hee
      split at h
      · rename_i hn
        subst hn
        cases h
        refine ⟨M, ρ, w, Step.refl hR, .inl ⟨_, ?_, ht0⟩⟩
        cases hv; exact key _ _ hd (by simp [Builtin.clear_, run_und ht])
      · rename_i hn
        split at h
        · rename_i ds rel ho
          split at h
          · rename_i hle
            cases h
            cases hv with
            | sl off len lo cap ex e' hid hlo hex hsz =>
              rename_i bk sz
              by_cases hpos : 0 < zv.cells.size
              · obtain ⟨q1, q2⟩ := zeros_rel z5 z4 n hpos
                obtain ⟨w', r1, r2⟩ := Step.put (P := P) hR hid ho off (xs := (List.replicate n z).flatten) (ds := (Builtin.zeroCells zv.cells n).toList) (by simp [zeroCells_size, z4]) (fun i h1 h2 => by
                  have := q1 i h1 (by rw [q2]; exact h1)
                  rw [← Array.getElem_toList] at this
                  exact this) (by rw [flatten_len]; rw [z3]; omega)
                refine ⟨M, ρ, w', r2, .inl ⟨_, key _ _ hd ?_, ht0⟩⟩
                cases n with
                | zero => exact absurd rfl hn
                | succ n => simp [Builtin.clear_, run_und ht, run_zero hi z2, r1]
              · have hz0 : zv.cells.size = 0 := by omega
                have hzl : (List.replicate n z).flatten = [] := by
                  apply List.eq_nil_of_length_eq_zero; rw [flatten_len, z4, hz0]; simp
                obtain ⟨w', r1, r2⟩ := Step.put (P := P) hR hid ho off (xs := (List.replicate n z).flatten) (ds := (Builtin.zeroCells zv.cells n).toList) (by simp [zeroCells_size, z4]) (fun i h1 h2 => by
                  rw [hzl] at h1; exact absurd h1 (by simp)) (by rw [flatten_len]; rw [z3]; omega)
                refine ⟨M, ρ, w', r2, .inl ⟨_, key _ _ hd ?_, ht0⟩⟩
                cases n with
                | zero => exact absurd rfl hn
                | succ n => simp [Builtin.clear_, run_und ht, run_zero hi z2, r1]
          · cases h
        · cases h
    · cases h
  · cases h

theorem toList_opt {xs : List Operand} {as : List AOpd} (h : trOs xs = some as) : (∀ a, as = [a] → ∃ x, xs = [x] ∧ trO x = some a) ∧ (∀ a b, as = [a, b] → ∃ x y, xs = [x, y] ∧ trO x = some a ∧ trO y = some b) := by
  have one : ∀ {xs : List Operand} {a : AOpd} {r : List AOpd}, trOs xs = some (a :: r) → ∃ x xs', xs = x :: xs' ∧ trO x = some a ∧ trOs xs' = some r := by
    intro xs a r h
    cases xs with
    | nil => cases h
    | cons x xs =>
      simp only [trOs] at h
      split at h
      · rename_i a' r' h1 h2; cases h; exact ⟨x, xs, rfl, h1, h2⟩
      · cases h
  have nil : ∀ {xs : List Operand}, trOs xs = some [] → xs = [] := by
    intro xs h
    have := trOs_len h
    cases xs with
    | nil => rfl
    | cons x xs => simp at this
  refine ⟨fun a ha => ?_, fun a b hab => ?_⟩
  · subst ha
    obtain ⟨x, xs', rfl, h1, h2⟩ := one h
    exact ⟨x, by rw [nil h2], h1⟩
  · subst hab
    obtain ⟨x, xs', rfl, h1, h2⟩ := one h
    obtain ⟨y, ys', rfl, h3, h4⟩ := one h2
    exact ⟨x, y, by rw [nil h4], h1, h3⟩

def isCall : AOp → Bool
  | .call .. => true
  | _ => false

theorem hop_of_val (hR : Rel M ρ H w) (h : Val P M ρ w e o v) : Hop P M ρ H w e o v H := by
  obtain ⟨v', h1, h2⟩ := h
  exact ⟨M, ρ, w, Step.refl hR, .inl ⟨v', h1, h2⟩⟩

theorem bin_ok (hR : Rel M ρ H w) (hr : Reads M ρ f e) {op : BinOp} {t u : TypeId} {x y : Operand} {a b : AOpd} {ao : AOp} (hop : o.op = .binOp op t x y u) (hx : trO x = some a) (hy : trO y = some b) (ht : trBin P op t a b = some ao) (h : pureA f H ao = some v) : Val P M ρ w e o v := by
  unfold trBin at ht
  split at ht
  · cases ht; exact val_bin hr hop hx hy h
  · rename_i neg hneg
    split at ht
    · cases ht; exact val_bin hr hop hx hy h
    · cases ht; exact val_bin hr hop hx hy h
    · rename_i hu; cases ht; exact val_eqb hr hop hneg hu hx hy h
    · rename_i n el hu
      split at ht
      · rename_i k hk
        split at ht
        · rename_i ti hti
          split at ht
          · rename_i hc; cases ht; exact val_eqa hr hop hneg hu hk hti hc.1 hc.2.1 hx hy h
          · cases ht
        · cases ht
      · cases ht
    · rename_i el hu; cases ht; exact val_eqn (k := 0) hr hop hneg ⟨_, hu⟩ hx hy h
    · rename_i el hu; cases ht; exact val_eqn (k := 1) hr hop hneg ⟨_, hu⟩ hx hy h
    · rename_i kt el hu; cases ht; exact val_eqn (k := 2) hr hop hneg ⟨_, _, hu⟩ hx hy h
    · rename_i a b c hu; cases ht; exact val_eqn (k := 3) hr hop hneg ⟨_, _, _, hu⟩ hx hy h
    · cases ht

theorem bin_pure {op : BinOp} {t : TypeId} {a b : AOpd} {ao : AOp} (ht : trBin P op t a b = some ao) : isPure ao = true := by
  unfold trBin at ht
  (repeat' split at ht) <;> cases ht <;> rfl

theorem builtin_ok (hR : Rel M ρ H w) (hr : Reads M ρ f e) {c : Call} {b : Builtin} {as : List AOpd} {ao : AOp} (hop : o.op = .call c) (hc : c.callee = .builtin b) (has : trOs c.args.toList = some as) (ht : trBuiltin P b c.argTypes.toList as = some ao)
    (h : (if isPure ao then (match pureA f H ao with | some v => some (v, H) | none => none) else heapA f H ao) = some (v, H')) : Hop P M ρ H w e o v H' := by
  obtain ⟨o1, o2⟩ := toList_opt has
  have pv : ∀ {ao : AOp}, isPure ao = true → (if isPure ao then (match pureA f H ao with | some v => some (v, H) | none => none) else heapA f H ao) = some (v, H') → pureA f H ao = some v ∧ H' = H := by
    intro ao hp h
    rw [if_pos hp] at h
    split at h
    · rename_i v' hv'; cases h; exact ⟨hv', rfl⟩
    · cases h
  unfold trBuiltin at ht
  split at ht
  · rename_i t x hts
    obtain ⟨x', hx', hx⟩ := o1 _ rfl
    split at ht
    · rename_i n el hu; cases ht; obtain ⟨h1, rfl⟩ := pv rfl h; exact hop_of_val hR (val_lenc hop hc hts hx' hu h1)
    · rename_i hu; cases ht; obtain ⟨h1, rfl⟩ := pv rfl h; exact hop_of_val hR (val_len (k := 0) hR hr hop hc hts hx' hx hu h1)
    · rename_i el hu; cases ht; obtain ⟨h1, rfl⟩ := pv rfl h; exact hop_of_val hR (val_len (k := 1) hR hr hop hc hts hx' hx ⟨_, hu⟩ h1)
    · rename_i kt el hu; cases ht; obtain ⟨h1, rfl⟩ := pv rfl h; exact hop_of_val hR (val_len (k := 2) hR hr hop hc hts hx' hx ⟨_, _, hu⟩ h1)
    · cases ht
  · rename_i t x hts
    obtain ⟨x', hx', hx⟩ := o1 _ rfl
    split at ht
    · rename_i el hu; cases ht; obtain ⟨h1, rfl⟩ := pv rfl h; exact hop_of_val hR (val_cap hr hop hc hts hx' hx hu h1)
    · cases ht
  · rename_i t u x y hts
    obtain ⟨x', y', hxy, hx, hy⟩ := o2 _ _ rfl
    split at ht
    · rename_i el hu
      split at ht
      · rename_i ti z q hti hz hq
        split at ht
        · rename_i hb; cases ht; exact hop_app hR hr hop hc hts hxy hx hy hu hq hti hz hb h
        · cases ht
      · cases ht
    · cases ht
  · rename_i t u x y hts
    obtain ⟨x', y', hxy, hx, hy⟩ := o2 _ _ rfl
    split at ht
    · rename_i el hu
      split at ht
      · rename_i ti q hti hq
        cases ht; exact hop_cpy hR hr hop hc hts hxy hx hy hu hti h
      · cases ht
    · cases ht
  · rename_i t x hts
    obtain ⟨x', hx', hx⟩ := o1 _ rfl
    split at ht
    · rename_i el hu
      split at ht
      · rename_i ti z hti hz
        cases ht; exact hop_clr hR hr hop hc hts hx' hx hu hti hz h
      · cases ht
    · cases ht
  · cases ht; obtain ⟨h1, rfl⟩ := pv rfl h; exact hop_of_val hR (val_minmax (mx := false) hr hop hc has h1)
  · cases ht; obtain ⟨h1, rfl⟩ := pv rfl h; exact hop_of_val hR (val_minmax (mx := true) hr hop hc has h1)
  · cases ht

theorem op_ok (hR : Rel M ρ H w) (hr : Reads M ρ f e) {ao : AOp} (ht : trOp P o.op = some ao) (hnc : isCall ao = false)
    (h : (if isPure ao then (match pureA f H ao with | some v => some (v, H) | none => none) else heapA f H ao) = some (v, H')) : Hop P M ρ H w e o v H' := by
  have pv : ∀ {ao : AOp}, isPure ao = true → (if isPure ao then (match pureA f H ao with | some v => some (v, H) | none => none) else heapA f H ao) = some (v, H') → pureA f H ao = some v ∧ H' = H := by
    intro ao hp h
    rw [if_pos hp] at h
    split at h
    · rename_i v' hv'; cases h; exact ⟨hv', rfl⟩
    · cases h
  cases hop : o.op <;> rw [hop] at ht <;> simp only [trOp] at ht <;> try (cases ht; done)
  case move x =>
    split at ht <;> cases ht
    obtain ⟨h1, rfl⟩ := pv rfl h; exact hop_of_val hR (val_mv hr (.inl hop) (by assumption) h1)
  case assign x =>
    split at ht <;> cases ht
    obtain ⟨h1, rfl⟩ := pv rfl h; exact hop_of_val hR (val_mv hr (.inr hop) (by assumption) h1)
  case pick c a b =>
    split at ht <;> cases ht
    obtain ⟨h1, rfl⟩ := pv rfl h; exact hop_of_val hR (val_pick hr hop (by assumption) (by assumption) (by assumption) h1)
  case alloc t =>
    split at ht <;> cases ht
    exact hop_alloc (f := f) hR hop (by assumption) h
  case box t x =>
    split at ht <;> cases ht
    exact hop_box hR hr hop (by assumption) h
  case build t parts =>
    split at ht
    · rename_i z fields hz hu
      split at ht
      · rename_i pl hpl
        split at ht <;> cases ht
        obtain ⟨h1, rfl⟩ := pv rfl h; exact hop_of_val hR (val_build_struct hr hop hz hu hpl (by assumption) h1)
      · cases ht
    · rename_i z n el hz hu
      split at ht
      · rename_i ti hti
        split at ht <;> cases ht
        obtain ⟨h1, rfl⟩ := pv rfl h; exact hop_of_val hR (val_build_array hr hop hz hu hti (by assumption) h1)
      · cases ht
    · cases ht
  case buildSlice t n parts =>
    split at ht
    · rename_i el hu
      split at ht
      · rename_i ti z hti hz
        split at ht
        · rename_i l hl
          split at ht <;> cases ht
          exact hop_bslice hR hr hop hu hti hz hl (by assumption) h
        · cases ht
      · cases ht
    · cases ht
  case load t x =>
    split at ht <;> cases ht
    obtain ⟨h1, rfl⟩ := pv rfl h; exact hop_of_val hR (val_load hR hr hop (by assumption) (by assumption) (by assumption) h1)
  case store t x y =>
    split at ht <;> cases ht
    exact hop_store hR hr hop (by assumption) (by assumption) (by assumption) h
  case nilCheck x =>
    split at ht <;> cases ht
    obtain ⟨h1, rfl⟩ := pv rfl h; exact hop_of_val hR (val_nchk hr hop (by assumption) h1)
  case binOp op t x y u =>
    split at ht
    · obtain ⟨h1, rfl⟩ := pv (bin_pure ht) h; exact hop_of_val hR (bin_ok hR hr hop (by assumption) (by assumption) ht h1)
    · cases ht
  case unOp op t x =>
    split at ht <;> cases ht
    obtain ⟨h1, rfl⟩ := pv rfl h; exact hop_of_val hR (val_un hr hop (by assumption) h1)
  case convert s d x =>
    split at ht
    · cases ht
      obtain ⟨h1, rfl⟩ := pv rfl h; exact hop_of_val hR (val_cvi hr hop (by assumption) (by assumption) (by assumption) h1)
    · split at ht <;> cases ht
      obtain ⟨h1, rfl⟩ := pv rfl h; exact hop_of_val hR (val_cvbs hR hr hop (by assumption) (by assumption) (by assumption) (by assumption) h1)
    · cases ht
  case makeFunc fn fs cs =>
    cases fn <;> simp only at ht <;> try (cases ht; done)
    split at ht <;> cases ht
    obtain ⟨h1, rfl⟩ := pv rfl h; exact hop_of_val hR (val_mkf hr hop (by assumption) (by assumption) h1)
  case makeMap t hint =>
    split at ht <;> cases ht
    exact hop_mkm hR hr hop (by assumption) (by assumption) h
  case makeSlice t l c =>
    split at ht
    · rename_i el hu
      split at ht
      · rename_i ti z l' c' hti hz hl hc
        split at ht <;> cases ht
        exact hop_mks hR hr hop hu hti hz hl hc (by assumption) h
      · cases ht
    · cases ht
  case slice t x lo hi mx =>
    split at ht
    · rename_i x' lo' hi' mx' hx hlo hhi hmx
      split at ht
      · split at ht <;> cases ht
        obtain ⟨h1, rfl⟩ := pv rfl h; exact hop_of_val hR (val_slc hR hr hop hx hlo hhi hmx (.inl ⟨_, rfl, by assumption⟩) (by assumption) h1)
      · split at ht <;> cases ht
        obtain ⟨h1, rfl⟩ := pv rfl h; exact hop_of_val hR (val_slc hR hr hop hx hlo hhi hmx (.inr ⟨rfl, by assumption⟩) (by assumption) h1)
      · split at ht
        · rename_i hn
          cases ht
          have : mx = none := by
            cases mx with
            | none => rfl
            | some m => simp only [trOO] at hmx; split at hmx <;> cases hmx; simp at hn
          subst this
          obtain ⟨h1, rfl⟩ := pv rfl h; exact hop_of_val hR (val_slcs hr hop hx hlo hhi (by assumption) h1)
        · cases ht
      · cases ht
    · cases ht
  case fieldAddr s x k =>
    split at ht
    · rename_i x' fields hx hu
      split at ht
      · rename_i fd hfd
        split at ht
        · split at ht <;> cases ht
          obtain ⟨h1, rfl⟩ := pv rfl h; exact hop_of_val hR (val_faddr hr hop hx hu hfd (by assumption) (by assumption) h1)
        · cases ht
      · cases ht
    · cases ht
  case field s x k =>
    split at ht
    · rename_i x' fields hx hu
      split at ht
      · rename_i fd hfd
        split at ht <;> cases ht
        obtain ⟨h1, rfl⟩ := pv rfl h; exact hop_of_val hR (val_fld hr hop hx hu hfd (by assumption) (by assumption) h1)
      · cases ht
    · cases ht
  case indexAddr t x i =>
    split at ht
    · split at ht <;> cases ht
      obtain ⟨h1, rfl⟩ := pv rfl h; exact hop_of_val hR (val_iaddr hr hop (by assumption) (by assumption) (.inl ⟨_, rfl, by assumption⟩) (by assumption) h1)
    · split at ht <;> cases ht
      obtain ⟨h1, rfl⟩ := pv rfl h; exact hop_of_val hR (val_iaddr hr hop (by assumption) (by assumption) (.inr ⟨rfl, by assumption⟩) (by assumption) h1)
    · cases ht
  case index t x i =>
    split at ht
    · split at ht <;> cases ht
      obtain ⟨h1, rfl⟩ := pv rfl h; exact hop_of_val hR (val_idx hr hop (by assumption) (by assumption) (by assumption) (by assumption) (by assumption) h1)
    · cases ht
      obtain ⟨h1, rfl⟩ := pv rfl h; exact hop_of_val hR (val_idxs hr hop (by assumption) (by assumption) (by assumption) h1)
    · cases ht
  case lookup t m k ok =>
    split at ht
    · rename_i m' k' kt el hm hk hu
      split at ht
      · rename_i ti hti
        split at ht
        · rename_i z hz
          split at ht
          · rename_i z' hz'
            split at ht <;> cases ht
            obtain ⟨h1, rfl⟩ := pv rfl h; exact hop_of_val hR (val_lkp hR hr hop hm hk hu hti hz hz' (by assumption) h1)
          · cases ht
        · cases ht
      · cases ht
    · cases ht
  case mapUpdate t m k x =>
    split at ht
    · rename_i m' k' x' kt el hm hk hx hu
      split at ht <;> cases ht
      exact hop_mpu hR hr hop hm hk hx hu (by assumption) h
    · cases ht
  case extract x i =>
    split at ht <;> cases ht
    obtain ⟨h1, rfl⟩ := pv rfl h; exact hop_of_val hR (val_ext hr hop (by assumption) h1)
  case call c =>
    split at ht
    · rename_i as has
      split at ht
      · split at ht <;> cases ht
        cases hnc
      · exact builtin_ok hR hr hop (by assumption) has ht h
      · cases ht
    · cases ht
end Go.Mach
