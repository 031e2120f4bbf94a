/-
  append, copy, clear; and every operation but a call. By an AI agent.
-/
import Derived.Test.YtpifopfpgfbdgaaMg
set_option linter.unusedSimpArgs false
set_option linter.unusedVariables false
namespace Go.Mach
variable {P : Program} {M : Mem} {ρ : Rho} {H H' : Heap} {w : World} {f : AOpd → AV} {e : Operand → Value} {o : Oper} {v : AV}

theorem first_rel (hR : Rel M ρ H w) {k n : Nat} {a : AV} {d : Value} {cs : List AV} (h : VRel M ρ a d) (hs : srcA H k a = some (n, cs)) :
    ∃ ds : Array Value, (∀ w' : World, w'.heap = w.heap → (Builtin.firstCells k n d).run P w' = .ok ds w') ∧ ds.size = cs.length ∧ cs.length = n * k ∧ CRel M ρ cs ds ∧ ∃ ad cap, d = .slice ad n cap := by
  obtain ⟨h1, ad, cap, rfl, h2, h3⟩ := src_rel hR h hs
  rcases h2 with rfl | ⟨b, off, rfl, c, T, mk, g1, g2, g3⟩
  · have hz : n * k = 0 := by simpa using h1.symm
    cases ad with
    | none => exact ⟨#[], fun w' _ => by simp [Builtin.firstCells], rfl, h1, (fun i h => absurd h (by simp)), _, _, rfl⟩
    | some ad => exact ⟨#[], fun w' _ => by simp [Builtin.firstCells, hz, loadCells, loadCellsFrom], rfl, h1, (fun i h => absurd h (by simp)), _, _, rfl⟩
  · refine ⟨c.extract off (off + n * k), fun w' hw' => by simp [Builtin.firstCells, run_cells (w := w') (by rw [hw']; exact g1) off (n * k) g2], by simp; omega, h1, fun i h4 h5 => ?_, _, _, rfl⟩
    have := g3 i h4 (by omega)
    simpa using this

theorem grow_le {need : Nat} (h : 768 ≤ 3 * need) : ∀ (r c : Nat), c ≤ 2 * need → Builtin.growBy need r c ≤ 2 * need := by
  intro r
  induction r with
  | zero => intro c hc; exact hc
  | succ r ih =>
    intro c hc
    simp only [Builtin.growBy]
    split
    · exact hc
    · exact ih _ (by omega)

theorem next_le {need cap : Nat} (h : cap < need) : Builtin.nextslicecap need cap ≤ 2 * need := by
  unfold Builtin.nextslicecap
  split
  · omega
  · split
    · omega
    · exact grow_le (by omega) 4 cap (by omega)

theorem run_grow {t u el : TypeId} {ti : TypeInfo} {z : Value} {u' : TypeDesc} {base : Option Addr} {len cap n : Nat} {x : Value} {olds news : Array Value} (ht : P.underlying t = some (.slice el)) (hu : P.underlying u = some u') (hu' : ∃ q, u' = .slice q) (hi : P.info? el = some ti) (hz : ti.zero = some z)
    (hb : 0 < ti.bytes) (hx : ∃ ad c, x = .slice ad n c) (hold : ∀ w', w'.heap = w.heap → (Builtin.firstCells ti.size len (.slice base len cap)).run P w' = .ok olds w') (hnew : ∀ w', w'.heap = w.heap → (Builtin.firstCells ti.size n x).run P w' = .ok news w')
    (hcap : cap < len + n) (hbig : (len + n) * ti.bytes ≤ 2 ^ 45) (ty : TypeId) :
    ∃ newCap, len + n ≤ newCap ∧ (Builtin.append_ #[t, u] ty #[.slice base len cap, x]).run P w =
      .ok (.slice (some ⟨w.heap.size, 0, none⟩) (len + n) newCap) (push { w with drawn := w.drawn + 1 } (.cells (olds ++ news ++ Builtin.zeroCells z.cells (newCap - (len + n))) el)) := by
  obtain ⟨q, rfl⟩ := hu'
  obtain ⟨ad, c, rfl⟩ := hx
  have hnn : len + n ≤ 2 ^ 45 := Nat.le_trans (Nat.le_mul_of_pos_right _ hb) hbig
  refine ⟨Question.cut (.appendCap (len + n) cap el) (w.tape w.drawn (.appendCap (len + n) cap el)), by simp only [Question.cut]; omega, ?_⟩
  have hns : ¬ Builtin.nextslicecap (len + n) cap * ti.bytes > 2 ^ 48 := by
    have := Nat.mul_le_mul_right ti.bytes (next_le hcap)
    have h2 : 2 * (len + n) * ti.bytes = 2 * ((len + n) * ti.bytes) := Nat.mul_assoc _ _ _
    omega
  have hmax : ¬ ((((len + n : Nat) : Int) > IntKind.i64.max) ∧ (False ∨ ti.bytes = 0)) := by rintro ⟨_, h | h⟩ <;> omega
  simp only [Builtin.append_, Sem.run_bind, run_und ht, run_und hu, Result.andThen_ok, run_size hi, Sem.run_pure, Builtin.lenOf, run_info hi, List.getElem?_toArray, List.getElem?_cons_zero, List.getElem?_cons_succ, Sem.run_ite]
  simp only [Bool.false_eq_true]
  rw [if_neg hmax, if_neg hns]
  have hfo : (Question.appendCap (len + n) cap el).forced = false := rfl
  have k1 := hold { w with drawn := w.drawn + 1 } rfl
  have k2 := hnew { w with drawn := w.drawn + 1 } rfl
  simp only [Sem.run_pure, Result.andThen_ok, Sem.run_bind, run_choose, hfo, Bool.false_eq_true, if_false, run_askRoom, k1, Bool.not_false, if_true, k2, run_zero hi hz, run_newRow]
  rw [if_neg (by omega)]


/-- Behind a growing append: a new row that bears the old and the new elements. -/
theorem grow_step (hR : Rel M ρ H w) {cs : List AV} {olds news : Array Value} {os ns : List AV} (h1 : olds.size = os.length) (h2 : CRel M ρ os olds) (h3 : news.size = ns.length) (h4 : CRel M ρ ns news) (rest : Array Value) (el : TypeId) (hcs : cs = os ++ ns) :
    Step M ρ H w M (upd ρ H.next (some (w.heap.size, (olds ++ news ++ rest).size))) (H.new (.cells cs none)) (push { w with drawn := w.drawn + 1 } (.cells (olds ++ news ++ rest) el)) := by
  subst hcs
  have hd := hR.drawn (w.drawn + 1)
  have := Step.row hd (os ++ ns) (olds ++ news ++ rest) el (by simp; omega) (fun i g1 g2 => by
    rw [List.getElem_append]
    split
    · rename_i hi
      rw [Array.getElem_append_left (by simp; omega), Array.getElem_append_left (by omega)]
      exact h2 i hi (by omega)
    · rename_i hi
      simp at g1
      rw [Array.getElem_append_left (by simp; omega), Array.getElem_append_right (by omega)]
      have := h4 (i - os.length) (by omega) (by omega)
      simpa [h1] using this)
  exact (Step.drawn hR (w.drawn + 1)).trans this

theorem zeroCells_size (z : Array Value) (n : Nat) : (Builtin.zeroCells z n).size = n * z.size := by simp [Builtin.zeroCells]

theorem slice_rel (hR : Rel M ρ H w) {id off len cap k b sz : Nat} {cs : List AV} (hid : ρ id = some (b, sz)) (hread : H.read id = some cs) (hle : off + len * k ≤ cs.length) :
    ∃ ds : Array Value, (∀ w' : World, w'.heap = w.heap → (Builtin.firstCells k len (.slice (some ⟨b, off, none⟩) len cap)).run P w' = .ok ds w') ∧ ds.size = ((cs.drop off).take (len * k)).length ∧ CRel M ρ ((cs.drop off).take (len * k)) ds := by
  obtain ⟨c, T, mk, h1, h2, h3, h4⟩ := read_rel hR hid hread
  refine ⟨c.extract off (off + len * k), fun w' hw' => by simp [Builtin.firstCells, run_cells (w := w') (by rw [hw']; exact h1) off (len * k) (by omega)], by simp; omega, fun i g1 g2 => ?_⟩
  simp only [List.length_take, List.length_drop] at g1
  simp only [List.getElem_take, List.getElem_drop, Array.getElem_extract]
  exact h4 (off + i) (by omega) (by omega)

theorem run_stay {t u el q : TypeId} {ti : TypeInfo} {base ad : Option Addr} {len cap cap' : Nat} (ht : P.underlying t = some (.slice el)) (hu : P.underlying u = some (.slice q)) (hi : P.info? el = some ti) (hlc : len ≤ cap)
    (hfc : (Builtin.firstCells ti.size 0 (.slice ad 0 cap')).run P w = .ok #[] w) (ty : TypeId) : (Builtin.append_ #[t, u] ty #[.slice base len cap, .slice ad 0 cap']).run P w = .ok (.slice base len cap) w := by
  have hc : len + 0 ≤ cap := hlc
  simp only [Builtin.append_, Sem.run_bind, run_und ht, run_und hu, Result.andThen_ok, run_size hi, Sem.run_pure, Builtin.lenOf, List.getElem?_toArray, List.getElem?_cons_zero, List.getElem?_cons_succ, Sem.run_ite, Bool.false_eq_true]
  simp only [if_false, if_pos hc, Bool.not_false, if_true, hfc, Result.andThen_ok]
  cases base <;> simp [storeCells]

theorem run_fits {t u el q : TypeId} {ti : TypeInfo} {b off ad0 : Nat} {ad : Option Addr} {len cap n cap' : Nat} {news : Array Value} {w' : World} (ht : P.underlying t = some (.slice el)) (hu : P.underlying u = some (.slice q)) (hi : P.info? el = some ti) (hlc : len + n ≤ cap)
    (hfc : (Builtin.firstCells ti.size n (.slice ad n cap')).run P w = .ok news w) (hst : (storeCells ⟨b, off + len * ti.size, none⟩ news.toList).run P w = .ok () w') (ty : TypeId) : (Builtin.append_ #[t, u] ty #[.slice (some ⟨b, off, none⟩) len cap, .slice ad n cap']).run P w = .ok (.slice (some ⟨b, off, none⟩) (len + n) cap) w' := by
  simp only [Builtin.append_, Sem.run_bind, run_und ht, run_und hu, Result.andThen_ok, run_size hi, Sem.run_pure, Builtin.lenOf, List.getElem?_toArray, List.getElem?_cons_zero, List.getElem?_cons_succ, Sem.run_ite, Bool.false_eq_true]
  simp only [if_false, if_pos hlc, Bool.not_false, if_true, hfc, Result.andThen_ok, addr_add, Sem.run_bind, hst, Sem.run_pure]

theorem hop_app {c : Call} {t u el q : TypeId} {x y : Operand} {a b : AOpd} {ti : TypeInfo} {z : List AV} (hR : Rel M ρ H w) (hr : Reads M ρ f e) (hop : o.op = .call c) (hc : c.callee = .builtin .append) (hts : c.argTypes.toList = [t, u]) (has : c.args.toList = [x, y])
    (hx : trO x = some a) (hy : trO y = some b) (ht : P.underlying t = some (.slice el)) (hu : P.underlying u = some (.slice q)) (hi : P.info? el = some ti) (hz : zeroOf P el = some z) (hb : 0 < ti.bytes ∧ 0 < ti.size)
    (h : heapA f H (.app ti.size ti.bytes a b) = some (v, H')) : Hop P M ρ H w e o v H' := by
  have hv := hr _ _ hx
  have hw := hr _ _ hy
  obtain ⟨i, zv, z1, z2, z3, z4, _, _⟩ := zeroOf_rel (M := M) (ρ := ρ) hz
  rw [hi] at z1; cases z1
  have hzs : zv.cells.size = ti.size := by omega
  have key : ∀ d d' r w', e x = d → e y = d' → (Builtin.append_ #[t, u] o.type #[d, d']).run P w = .ok r w' → (execOp e o).run P w = .ok (.value r) w' := by
    intro d d' r w' hd hd' hrun
    refine run_call_builtin hop hc (toList_two hts) (d := #[d, d']) (by rw [toList_two has]; simp [hd, hd']) w' fun cs => ?_
    simp only [builtin, Sem.run_bind, hrun, Result.andThen_ok, Sem.run_pure]
  simp only [heapA] at h
  generalize f a = fa at h hv
  generalize hd : e x = d at hv
  unfold appA at h
  split at h
  · cases h
  · rename_i n new hsrc
    obtain ⟨news, s1, s2, s3, s4, ad, cap', hd'⟩ := first_rel (P := P) hR hw hsrc
    rw [hd'] at s1
    -- nothing to append
    have stay : ∀ (base : Option Addr) (len cap : Nat), n = 0 → len ≤ cap → d = .slice base len cap → (execOp e o).run P w = .ok (.value (.slice base len cap)) w := by
      intro base len cap hn hlc hds
      refine key d _ _ w hd hd' ?_
      subst hds hn
      have hnews : news = #[] := Array.eq_empty_of_size_eq_zero (by rw [s2, s3]; simp)
      exact run_stay ht hu hi hlc (by rw [s1 w rfl, hnews]) _
    have grow : ∀ (base : Option Addr) (len cap : Nat) (os : List AV) (olds : Array Value), d = .slice base len cap → (∀ w' : World, w'.heap = w.heap → (Builtin.firstCells ti.size len (.slice base len cap)).run P w' = .ok olds w') →
        olds.size = os.length → CRel M ρ os olds → os.length = len * ti.size → cap < len + n → (len + n) * ti.bytes ≤ 2 ^ 45 → Hop P M ρ H w e o (.sl H.next 0 (len + n) (len + n) false ti.size) (H.new (.cells (os ++ new) none)) := by
      intro base len cap os olds hds k1 k2 k3 k4 hcap hbig
      subst hds
      obtain ⟨newCap, q1, q2⟩ := run_grow (P := P) (w := w) (base := base) ht hu ⟨_, rfl⟩ hi z2 hb.1 ⟨ad, cap', rfl⟩ k1 s1 hcap hbig o.type
      refine ⟨_, _, _, grow_step hR k2 k3 s2 s4 (Builtin.zeroCells zv.cells (newCap - (len + n))) el rfl, .inl ⟨_, key _ _ _ _ hd hd' q2, ?_⟩⟩
      refine .sl 0 _ _ newCap false _ (upd_same _ _ _) q1 (by simp) ?_
      simp only [Array.size_append, zeroCells_size, hzs, k2, k4, s2, s3, Nat.zero_add]
      rw [← Nat.add_mul, ← Nat.add_mul]
      exact Nat.mul_le_mul_right _ (by omega)
    split at h
    · rename_i hn
      split at h
      · cases h
        cases hv
        exact ⟨M, ρ, w, Step.refl hR, .inl ⟨_, stay _ _ _ hn (Nat.le_refl _) rfl, .nils⟩⟩
      · cases h
        refine ⟨M, ρ, w, Step.refl hR, .inl ⟨d, ?_, hv⟩⟩
        cases hv <;> exact stay _ _ _ hn (by assumption) rfl
      · split at h
        · rename_i hll
          cases h
          refine ⟨M, ρ, w, Step.refl hR, .inl ⟨d, ?_, hv⟩⟩
          cases hv
          exact stay _ _ _ hn (by omega) rfl
        · cases h
      · cases h
    · rename_i hn
      split at h
      · split at h
        · rename_i hbig
          cases h
          cases hv
          have := grow none 0 0 [] #[] rfl (fun w' _ => by simp [Builtin.firstCells]) rfl (fun i h => absurd h (by simp)) (by simp) (by omega) (by simpa using hbig)
          simpa using this
        · cases h
      · rename_i len cs
        split at h
        · rename_i hcond
          cases h
          have hsrc0 : srcA H ti.size (.vec len true cs) = some (len, cs) := by simp [srcA, hcond.2]
          obtain ⟨olds, k1, k2, k3, k4, ad0, cap0, hd0⟩ := first_rel (P := P) hR hv hsrc0
          have hcap : cap0 = len := by subst hd0; cases hv <;> simp_all
          subst hcap hd0
          exact grow _ _ _ cs olds rfl k1 k2 k4 k3 (by omega) hcond.1
        · cases h
      · rename_i id off len lo ex e'
        split at h
        · cases h
        · rename_i hee
          have hee : e' = ti.size := by omega
          subst hee
          cases hv with
          | sl off len lo cap ex e' hid hlo hex hsz =>
            rename_i bk sz
            split at h
            · rename_i cs rel ho
              have hread : H.read id = some cs := by unfold Heap.read; rw [ho]
              have hobj := hR.obj id bk sz hid
              rw [ho] at hobj
              obtain ⟨hm, c0, T, mk, m1, m2, m3, m4, m5⟩ := hobj
              split at h
              · rename_i hfit
                split at h
                · rename_i hle
                  cases h
                  have hmul : (len + n) * ti.size = len * ti.size + n * ti.size := Nat.add_mul _ _ _
                  obtain ⟨w', r1, r2⟩ := Step.put (P := P) hR hid ho (off + len * ti.size) (xs := new) (ds := news.toList) (by simp [s2]) (fun i h1 h2 => by
                    have := s4 i h1 (by simpa using h2)
                    rwa [← Array.getElem_toList] at this) (by omega)
                  refine ⟨M, ρ, w', r2, .inl ⟨_, key _ _ _ _ hd hd' (run_fits (ad0 := 0) ht hu hi (by omega) (s1 w rfl) r1 _), ?_⟩⟩
                  exact .sl off _ lo cap ex _ hid hlo hex hsz
                · cases h
              · rename_i hnofit
                split at h
                · rename_i hbig
                  split at h
                  · rename_i hexx
                    split at h
                    · rename_i hle
                      cases h
                      obtain ⟨olds, k1, k2, k3⟩ := slice_rel (P := P) (cap := cap) hR hid hread hle
                      exact grow _ _ _ _ olds rfl k1 k2 k3 (by simp; omega) (by have := hex hexx; omega) hbig
                    · cases h
                  · rename_i hexx
                    split at h
                    · rename_i hcond
                      obtain ⟨rfl, hlen⟩ := hcond
                      cases h
                      have hexf : ex = false := by simpa using hexx
                      subst hexf
                      have hnl : new.length = n * ti.size := s3
                      have hov : ((H.kill rel).set id (.cells cs (some H.next))) = H.over id (.cells cs (some H.next)) := by unfold Heap.over; rw [ho]; rfl
                      rw [hov]
                      have hidn : id < H.next := hR.dom _ _ hid
                      by_cases hroom : len + n ≤ cap
                      · -- in place
                        have hmul : (len + n) * ti.size = len * ti.size + n * ti.size := Nat.add_mul _ _ _
                        have hmc : (len + n) * ti.size ≤ cap * ti.size := Nat.mul_le_mul_right _ hroom
                        have hst := run_storeCells (P := P) m2 (0 + len * ti.size) news.toList 0 c0 w m1 (by simp; omega) (isOne_of (M := M) (ρ := ρ) (cs := new) (by simp [s2]) (fun i h1 h2 => by
                          have := s4 i h1 (by simpa using h2)
                          rwa [← Array.getElem_toList] at this))
                        simp only [Nat.zero_add, Nat.add_zero] at hst
                        have hcell : ∀ i (h2 : i < (putD c0 (len * ti.size) news.toList).size), (i < len * ti.size → (putD c0 (len * ti.size) news.toList)[i] = c0[i]'(by rw [putD_size] at h2; exact h2)) ∧ (∀ j (hj : j < news.size), i = len * ti.size + j → (putD c0 (len * ti.size) news.toList)[i] = news[j]) := by
                          intro i h2
                          have := putD_get news.toList c0 (len * ti.size) (by simp; omega) i (by rw [putD_size] at h2; exact h2)
                          refine ⟨fun hi => ?_, fun j hj hij => ?_⟩
                          · exact this.1 (.inl hi)
                          · subst hij
                            have h3 := this.2 j (by simpa using hj) rfl
                            rw [h3, Array.getElem_toList]
                        refine ⟨M, upd ρ H.next (some (bk, sz)), setBlk w bk (.cells (putD c0 (len * ti.size) news.toList) T mk), Step.child hR id cs (cs ++ new) rel ho (bk, sz) (by simp [setBlk]; exact lt_of_some m1) hidn ⟨rfl, rfl, rfl⟩ (by simp [setBlk]) hm (fun b' hb' hne => setBlk_ne fun e => hne sz (by rw [hid]; rw [e]) (by rw [e])) (.inr hid) ?_ ?_, .inl ⟨_, key _ _ _ _ hd hd' (run_fits (ad0 := 0) ht hu hi hroom (s1 w rfl) (by simpa using hst) _), ?_⟩⟩
                        · intro b' s' hb'
                          rw [hid] at hb'; cases hb'
                          refine ⟨hm, _, T, mk, setBlk_same (lt_of_some m1), m2, by rw [putD_size]; exact m3, m4, fun i g1 g2 => ?_⟩
                          rw [(hcell i g2).1 (by omega)]
                          exact m5 i g1 _
                        · refine ⟨hm, _, T, mk, setBlk_same (lt_of_some m1), m2, by rw [putD_size]; exact m3, by simp; omega, fun i g1 g2 => ?_⟩
                          rw [List.getElem_append]
                          split
                          · rename_i hi1
                            rw [(hcell i g2).1 (by omega)]
                            exact m5 i hi1 _
                          · rename_i hi1
                            simp at g1
                            rw [(hcell i g2).2 (i - cs.length) (by omega) (by omega)]
                            exact s4 _ (by omega) (by omega)
                        · exact .sl 0 _ _ cap false _ (upd_same _ _ _) hroom (by simp) hsz
                      · -- a new block
                        obtain ⟨olds, k1, k2, k3⟩ := slice_rel (P := P) (cap := cap) hR hid hread (off := 0) (len := len) (k := ti.size) (by omega)
                        obtain ⟨newCap, q1, q2⟩ := run_grow (P := P) (w := w) (base := some ⟨bk, 0, none⟩) ht hu ⟨_, rfl⟩ hi z2 hb.1 ⟨ad, cap', rfl⟩ k1 s1 (by omega) hbig o.type
                        have hcs : (cs.drop 0).take (len * ti.size) = cs := by rw [List.drop_zero, hlen]; exact List.take_length
                        rw [hcs] at k2 k3
                        have hsize : (olds ++ news ++ Builtin.zeroCells zv.cells (newCap - (len + n))).size = newCap * ti.size := by
                          simp only [Array.size_append, zeroCells_size, hzs, k2, s2, s3, ← hlen]
                          rw [← Nat.add_mul, ← Nat.add_mul]; congr 1; omega
                        refine ⟨M, upd ρ H.next (some (w.heap.size, newCap * ti.size)), push { w with drawn := w.drawn + 1 } (.cells (olds ++ news ++ Builtin.zeroCells zv.cells (newCap - (len + n))) el), Step.child hR id cs (cs ++ new) rel ho (w.heap.size, newCap * ti.size) (by simp [push]) hidn ⟨rfl, rfl, rfl⟩ (by simp [push]) hR.free
                          (fun b' hb' _ => push_old (w := { w with drawn := w.drawn + 1 }) hb') (.inl (Nat.le_refl _)) ?_ ?_, .inl ⟨_, key _ _ _ _ hd hd' q2, ?_⟩⟩
                        · intro b' s' hb'
                          rw [hid] at hb'; cases hb'
                          exact ⟨hm, c0, T, mk, (push_old (w := { w with drawn := w.drawn + 1 }) (lt_of_some m1)).trans m1, m2, m3, m4, m5⟩
                        · refine ⟨hR.free, _, el, (0, 0), push_new (w := { w with drawn := w.drawn + 1 }), Nat.le_refl _, hsize, ?_, fun i g1 g2 => ?_⟩
                          · simp only [List.length_append, hnl, ← hlen]
                            rw [← Nat.add_mul]; exact Nat.mul_le_mul_right _ q1
                          · rw [List.getElem_append]
                            split
                            · rename_i hi1
                              rw [Array.getElem_append_left (by simp; omega), Array.getElem_append_left (by omega)]
                              exact k3 i hi1 (by omega)
                            · rename_i hi1
                              simp at g1
                              rw [Array.getElem_append_left (by simp; omega), Array.getElem_append_right (by omega)]
                              have := s4 (i - cs.length) (by omega) (by omega)
                              simpa [k2] using this
                        · exact .sl 0 _ _ newCap false _ (upd_same _ _ _) q1 (by simp) (by simp)
                    · cases h
                · cases h
            · rename_i cs ho
              have hread : H.read id = some cs := by unfold Heap.read; rw [ho]
              split at h
              · rename_i hcond
                cases h
                obtain ⟨olds, k1, k2, k3⟩ := slice_rel (P := P) (cap := cap) hR hid hread hcond.2.2.2
                exact grow _ _ _ _ olds rfl k1 k2 k3 (by simp; omega) (by have := hex hcond.1; omega) hcond.2.2.1
              · cases h
            · cases h
      · cases h
end Go.Mach
