/-
  Rules by which the machine without a bound is run on open terms. Written in part by a program (mknb.py). By an AI agent.
-/
import Derived.Test.YtlbihaiejbpjoaaGreatNa
set_option linter.unusedSimpArgs false
set_option linter.unusedVariables false
namespace Go.Mach

inductive Jtm where
  | code (c : ACode)
  | inBlock (id : Nat)
  | inLoop (c : ACode)

noncomputable def ksi (call : CallFn) : List Jtm → KF → KF
  | [], k => k
  | .code c :: s, k => fun e σ H => match e with
    | .nrm => evalI call c (ksi call s k) σ H
    | e => ksi call s k e σ H
  | .inBlock id :: s, k => fun e σ H => match e with
    | .exit i => if i = id then ksi call s k .nrm σ H else ksi call s k (.exit i) σ H
    | e => ksi call s k e σ H
  | .inLoop c :: s, k => fun e σ H => match e with
    | .nrm => loopI (evalI call c) (ksi call s k) σ H
    | e => ksi call s k e σ H

noncomputable def gi (call : CallFn) (c : ACode) (s : List Jtm) (k : KF) (σ : Sig) (H : Heap) : R := evalI call c (ksi call s k) σ H
noncomputable def oi (call : CallFn) (l : List AOper) (s : List Jtm) (k : KF) (σ : Sig) (H : Heap) : R := evalOps call l (ksi call s k .nrm) σ H
noncomputable def ai (call : CallFn) (s : List Jtm) (k : KF) (e : Ex) (σ : Sig) (H : Heap) : R := ksi call s k e σ H
noncomputable def li (call : CallFn) (c : ACode) (s : List Jtm) (k : KF) (σ : Sig) (H : Heap) : R := loopI (evalI call c) (ksi call s k) σ H

section
variable {call : CallFn} {s : List Jtm} {k : KF} {σ : Sig} {H : Heap}

theorem gi_skip : gi call .skip s k σ H = ai call s k .nrm σ H := rfl
theorem gi_ops {l : List AOper} : gi call (.ops l) s k σ H = oi call l s k σ H := rfl
theorem gi_seq {a b : ACode} : gi call (.seq a b) s k σ H = gi call a (.code b :: s) k σ H := rfl
theorem gi_block {id : Nat} {c : ACode} : gi call (.block id c) s k σ H = gi call c (.inBlock id :: s) k σ H := rfl
theorem gi_loop {c : ACode} : gi call (.loop c) s k σ H = li call c s k σ H := rfl
theorem gi_exit {id : Nat} : gi call (.exit id) s k σ H = ai call s k (.exit id) σ H := rfl
theorem gi_ret : gi call .ret s k σ H = ai call s k .ret σ H := rfl
theorem li_eq {c : ACode} : li call c s k σ H = gi call c (.inLoop c :: s) k σ H := loopI_eq.trans (by unfold gi; congr 1)
theorem ai_nil {e : Ex} : ai call [] k e σ H = k e σ H := rfl
theorem ai_code {c : ACode} : ai call (.code c :: s) k .nrm σ H = gi call c s k σ H := rfl
theorem ai_code_exit {c : ACode} {i : Nat} : ai call (.code c :: s) k (.exit i) σ H = ai call s k (.exit i) σ H := rfl
theorem ai_code_ret {c : ACode} : ai call (.code c :: s) k .ret σ H = ai call s k .ret σ H := rfl
theorem ai_block {id : Nat} : ai call (.inBlock id :: s) k .nrm σ H = ai call s k .nrm σ H := rfl
theorem ai_block_ret {id : Nat} : ai call (.inBlock id :: s) k .ret σ H = ai call s k .ret σ H := rfl
theorem ai_block_exit {id i : Nat} : ai call (.inBlock id :: s) k (.exit i) σ H = if i = id then ai call s k .nrm σ H else ai call s k (.exit i) σ H := rfl
theorem ai_loop {c : ACode} : ai call (.inLoop c :: s) k .nrm σ H = li call c s k σ H := rfl
theorem ai_loop_exit {c : ACode} {i : Nat} : ai call (.inLoop c :: s) k (.exit i) σ H = ai call s k (.exit i) σ H := rfl
theorem ai_loop_ret {c : ACode} : ai call (.inLoop c :: s) k .ret σ H = ai call s k .ret σ H := rfl

noncomputable def condI (call : CallFn) (v : AV) (x y : ACode) (s : List Jtm) (k : KF) (σ : Sig) (H : Heap) : R := match v with
  | .bool t => if t then gi call x s k σ H else gi call y s k σ H
  | _ => none
theorem gi_cond {c : AOpd} {x y : ACode} : gi call (.cond c x y) s k σ H = condI call (ev σ c) x y s k σ H := rfl
theorem condI_true {x y : ACode} : condI call (.bool true) x y s k σ H = gi call x s k σ H := rfl
theorem condI_false {x y : ACode} : condI call (.bool false) x y s k σ H = gi call y s k σ H := rfl

theorem oi_nil : oi call [] s k σ H = ai call s k .nrm σ H := rfl

/-- One more operation, whose answer is at hand. -/
noncomputable def afterI (call : CallFn) (d : Option Nat) (l : List AOper) (s : List Jtm) (k : KF) (σ : Sig) (H : Heap) : Option AV → R
  | some v => oi call l s k (putS σ d v) H
  | none => none
noncomputable def afterHI (call : CallFn) (d : Option Nat) (solo : Bool) (wc : Nat) (l : List AOper) (s : List Jtm) (k : KF) (σ : Sig) : R → R
  | some (v, H') => if solo || H'.wc == wc then oi call l s k (putS σ d v) H' else none
  | none => none
theorem afterI_some {d : Nat} {l : List AOper} {v : AV} : afterI call (some d) l s k σ H (some v) = oi call l s k (upd σ d v) H := rfl
theorem afterHI_some {d : Nat} {wc : Nat} {l : List AOper} {v : AV} {H' : Heap} : afterHI call (some d) true wc l s k σ (some (v, H')) = oi call l s k (upd σ d v) H' := rfl
theorem afterHI_none {wc : Nat} {l : List AOper} {v : AV} {H' : Heap} : afterHI call none true wc l s k σ (some (v, H')) = oi call l s k σ H' := rfl
theorem afterHI_same {d : Nat} {b : Bool} {l : List AOper} {v : AV} : afterHI call (some d) b H.wc l s k σ (some (v, H)) = oi call l s k (upd σ d v) H := by
  simp [afterHI, putS]
theorem afterHI_new {d : Nat} {b : Bool} {l : List AOper} {v : AV} {o : AObj} : afterHI call (some d) b H.wc l s k σ (some (v, H.new o)) = oi call l s k (upd σ d v) (H.new o) := by
  simp [afterHI, putS, Heap.new]

theorem oi_pure {d : Option Nat} {op : AOp} {b : Bool} {l : List AOper} (h : isPure op = true) : oi call (⟨d, op, none, b⟩ :: l) s k σ H = afterI call d l s k σ H (pureA (ev σ) H op) := by
  unfold oi evalOps
  have hc : stepA call (ev σ) H op = match pureA (ev σ) H op with | some v => some (v, H) | none => none := by
    cases op <;> first | rfl | simp [isPure] at h
  simp only [wantedA, if_true, hc]
  cases pureA (ev σ) H op <;> simp [afterI, oi]

theorem oi_heap {d : Option Nat} {op : AOp} {b : Bool} {l : List AOper} (h : isPure op = false) (hc : isCall op = false) : oi call (⟨d, op, none, b⟩ :: l) s k σ H = afterHI call d b H.wc l s k σ (heapA (ev σ) H op) := by
  unfold oi evalOps
  have hs : stepA call (ev σ) H op = heapA (ev σ) H op := by
    cases op <;> first | rfl | (simp [isPure] at h; done) | (simp [isCall] at hc; done)
  simp only [wantedA, if_true, hs]
  cases heapA (ev σ) H op <;> rfl

theorem oi_mv {d : Nat} {x : AOpd} {b : Bool} {l : List AOper} : oi call (⟨some d, .mv x, none, b⟩ :: l) s k σ H = oi call l s k (upd σ d (ev σ x)) H := oi_pure rfl

theorem oi_pick {d : Option Nat} {b : Bool} {l : List AOper} (c a b0 : AOpd) : oi call (⟨d, .pick c a b0, none, b⟩ :: l) s k σ H = afterI call d l s k σ H (pureA (ev σ) H (.pick c a b0)) := oi_pure rfl
theorem oi_build {d : Option Nat} {b : Bool} {l : List AOper} (zs : List AV) (ps : List (Nat × Nat × AOpd)) : oi call (⟨d, .build zs ps, none, b⟩ :: l) s k σ H = afterI call d l s k σ H (pureA (ev σ) H (.build zs ps)) := oi_pure rfl
theorem oi_load {d : Option Nat} {b : Bool} {l : List AOper} (ag : Bool) (m : Nat) (a : AOpd) : oi call (⟨d, .load ag m a, none, b⟩ :: l) s k σ H = afterI call d l s k σ H (pureA (ev σ) H (.load ag m a)) := oi_pure rfl
theorem oi_nchk {d : Option Nat} {b : Bool} {l : List AOper} (x : AOpd) : oi call (⟨d, .nchk x, none, b⟩ :: l) s k σ H = afterI call d l s k σ H (pureA (ev σ) H (.nchk x)) := oi_pure rfl
theorem oi_bin {d : Option Nat} {b : Bool} {l : List AOper} (o : BinOp) (x y : AOpd) : oi call (⟨d, .bin o x y, none, b⟩ :: l) s k σ H = afterI call d l s k σ H (pureA (ev σ) H (.bin o x y)) := oi_pure rfl
theorem oi_eqb {d : Option Nat} {b : Bool} {l : List AOper} (ng : Bool) (x y : AOpd) : oi call (⟨d, .eqb ng x y, none, b⟩ :: l) s k σ H = afterI call d l s k σ H (pureA (ev σ) H (.eqb ng x y)) := oi_pure rfl
theorem oi_eqa {d : Option Nat} {b : Bool} {l : List AOper} (ng : Bool) (m : Nat) (x y : AOpd) : oi call (⟨d, .eqa ng m x y, none, b⟩ :: l) s k σ H = afterI call d l s k σ H (pureA (ev σ) H (.eqa ng m x y)) := oi_pure rfl
theorem oi_eqn {d : Option Nat} {b : Bool} {l : List AOper} (kd : Nat) (ng : Bool) (x y : AOpd) : oi call (⟨d, .eqn kd ng x y, none, b⟩ :: l) s k σ H = afterI call d l s k σ H (pureA (ev σ) H (.eqn kd ng x y)) := oi_pure rfl
theorem oi_un {d : Option Nat} {b : Bool} {l : List AOper} (o : UnOp) (x : AOpd) : oi call (⟨d, .un o x, none, b⟩ :: l) s k σ H = afterI call d l s k σ H (pureA (ev σ) H (.un o x)) := oi_pure rfl
theorem oi_cvi {d : Option Nat} {b : Bool} {l : List AOper} (ik : IntKind) (x : AOpd) : oi call (⟨d, .cvi ik x, none, b⟩ :: l) s k σ H = afterI call d l s k σ H (pureA (ev σ) H (.cvi ik x)) := oi_pure rfl
theorem oi_cvbs {d : Option Nat} {b : Bool} {l : List AOper} (x : AOpd) : oi call (⟨d, .cvbs x, none, b⟩ :: l) s k σ H = afterI call d l s k σ H (pureA (ev σ) H (.cvbs x)) := oi_pure rfl
theorem oi_mkf {d : Option Nat} {b : Bool} {l : List AOper} (g : Nat) (fs cs : List AOpd) : oi call (⟨d, .mkf g fs cs, none, b⟩ :: l) s k σ H = afterI call d l s k σ H (pureA (ev σ) H (.mkf g fs cs)) := oi_pure rfl
theorem oi_slc {d : Option Nat} {b : Bool} {l : List AOper} (sk : SK) (e : Nat) (x : AOpd) (lo hi mx : Option AOpd) : oi call (⟨d, .slc sk e x lo hi mx, none, b⟩ :: l) s k σ H = afterI call d l s k σ H (pureA (ev σ) H (.slc sk e x lo hi mx)) := oi_pure rfl
theorem oi_faddr {d : Option Nat} {b : Bool} {l : List AOper} (off : Nat) (x : AOpd) : oi call (⟨d, .faddr off x, none, b⟩ :: l) s k σ H = afterI call d l s k σ H (pureA (ev σ) H (.faddr off x)) := oi_pure rfl
theorem oi_fld {d : Option Nat} {b : Bool} {l : List AOper} (ag : Bool) (off m : Nat) (x : AOpd) : oi call (⟨d, .fld ag off m x, none, b⟩ :: l) s k σ H = afterI call d l s k σ H (pureA (ev σ) H (.fld ag off m x)) := oi_pure rfl
theorem oi_iaddr {d : Option Nat} {b : Bool} {l : List AOper} (arr : Option Nat) (e : Nat) (x i : AOpd) : oi call (⟨d, .iaddr arr e x i, none, b⟩ :: l) s k σ H = afterI call d l s k σ H (pureA (ev σ) H (.iaddr arr e x i)) := oi_pure rfl
theorem oi_idx {d : Option Nat} {b : Bool} {l : List AOper} (ag : Bool) (m e : Nat) (x i : AOpd) : oi call (⟨d, .idx ag m e x i, none, b⟩ :: l) s k σ H = afterI call d l s k σ H (pureA (ev σ) H (.idx ag m e x i)) := oi_pure rfl
theorem oi_idxs {d : Option Nat} {b : Bool} {l : List AOper} (x i : AOpd) : oi call (⟨d, .idxs x i, none, b⟩ :: l) s k σ H = afterI call d l s k σ H (pureA (ev σ) H (.idxs x i)) := oi_pure rfl
theorem oi_ext {d : Option Nat} {b : Bool} {l : List AOper} (x : AOpd) (i : Nat) : oi call (⟨d, .ext x i, none, b⟩ :: l) s k σ H = afterI call d l s k σ H (pureA (ev σ) H (.ext x i)) := oi_pure rfl
theorem oi_lkp {d : Option Nat} {b : Bool} {l : List AOper} (st : Bool) (z : AV) (o : Bool) (m q : AOpd) : oi call (⟨d, .lkp st z o m q, none, b⟩ :: l) s k σ H = afterI call d l s k σ H (pureA (ev σ) H (.lkp st z o m q)) := oi_pure rfl
theorem oi_len {d : Option Nat} {b : Bool} {l : List AOper} (kd : Nat) (x : AOpd) : oi call (⟨d, .len kd x, none, b⟩ :: l) s k σ H = afterI call d l s k σ H (pureA (ev σ) H (.len kd x)) := oi_pure rfl
theorem oi_lenc {d : Option Nat} {b : Bool} {l : List AOper} (m : Nat) : oi call (⟨d, .lenc m, none, b⟩ :: l) s k σ H = afterI call d l s k σ H (pureA (ev σ) H (.lenc m)) := oi_pure rfl
theorem oi_cap {d : Option Nat} {b : Bool} {l : List AOper} (x : AOpd) : oi call (⟨d, .cap x, none, b⟩ :: l) s k σ H = afterI call d l s k σ H (pureA (ev σ) H (.cap x)) := oi_pure rfl
theorem oi_minmax {d : Option Nat} {b : Bool} {l : List AOper} (mx : Bool) (xs : List AOpd) : oi call (⟨d, .minmax mx xs, none, b⟩ :: l) s k σ H = afterI call d l s k σ H (pureA (ev σ) H (.minmax mx xs)) := oi_pure rfl
theorem oi_box {d : Option Nat} {b : Bool} {l : List AOper} (x : AOpd) : oi call (⟨d, .box x, none, b⟩ :: l) s k σ H = afterHI call d b H.wc l s k σ (heapA (ev σ) H (.box x)) := oi_heap rfl rfl
theorem oi_alloc {d : Option Nat} {b : Bool} {l : List AOper} (zs : List AV) : oi call (⟨d, .alloc zs, none, b⟩ :: l) s k σ H = afterHI call d b H.wc l s k σ (heapA (ev σ) H (.alloc zs)) := oi_heap rfl rfl
theorem oi_bslice {d : Option Nat} {b : Bool} {l : List AOper} (m e : Nat) (zs : List AV) (ps : List (Nat × Nat × AOpd)) : oi call (⟨d, .bslice m e zs ps, none, b⟩ :: l) s k σ H = afterHI call d b H.wc l s k σ (heapA (ev σ) H (.bslice m e zs ps)) := oi_heap rfl rfl
theorem oi_store {d : Option Nat} {b : Bool} {l : List AOper} (m : Nat) (a x : AOpd) : oi call (⟨d, .store m a x, none, b⟩ :: l) s k σ H = afterHI call d b H.wc l s k σ (heapA (ev σ) H (.store m a x)) := oi_heap rfl rfl
theorem oi_mkm {d : Option Nat} {b : Bool} {l : List AOper} (h : Option AOpd) : oi call (⟨d, .mkm h, none, b⟩ :: l) s k σ H = afterHI call d b H.wc l s k σ (heapA (ev σ) H (.mkm h)) := oi_heap rfl rfl
theorem oi_mks {d : Option Nat} {b : Bool} {l : List AOper} (e : Nat) (zs : List AV) (bs : Nat) (len cp : AOpd) : oi call (⟨d, .mks e zs bs len cp, none, b⟩ :: l) s k σ H = afterHI call d b H.wc l s k σ (heapA (ev σ) H (.mks e zs bs len cp)) := oi_heap rfl rfl
theorem oi_mpu {d : Option Nat} {b : Bool} {l : List AOper} (st : Bool) (m q v : AOpd) : oi call (⟨d, .mpu st m q v, none, b⟩ :: l) s k σ H = afterHI call d b H.wc l s k σ (heapA (ev σ) H (.mpu st m q v)) := oi_heap rfl rfl
theorem oi_app {d : Option Nat} {b : Bool} {l : List AOper} (e bs : Nat) (x y : AOpd) : oi call (⟨d, .app e bs x y, none, b⟩ :: l) s k σ H = afterHI call d b H.wc l s k σ (heapA (ev σ) H (.app e bs x y)) := oi_heap rfl rfl
theorem oi_cpy {d : Option Nat} {b : Bool} {l : List AOper} (e : Nat) (x y : AOpd) : oi call (⟨d, .cpy e x y, none, b⟩ :: l) s k σ H = afterHI call d b H.wc l s k σ (heapA (ev σ) H (.cpy e x y)) := oi_heap rfl rfl
theorem oi_clr {d : Option Nat} {b : Bool} {l : List AOper} (e : Nat) (zs : List AV) (x : AOpd) : oi call (⟨d, .clr e zs x, none, b⟩ :: l) s k σ H = afterHI call d b H.wc l s k σ (heapA (ev σ) H (.clr e zs x)) := oi_heap rfl rfl

theorem oi_call {d : Option Nat} {g : AOpd} {xs : List AOpd} {b : Bool} {l : List AOper} : oi call (⟨d, .call g xs, none, b⟩ :: l) s k σ H = afterHI call d b H.wc l s k σ (callR call (ev σ g) (xs.map (ev σ)) H) := by
  unfold oi evalOps
  have hs : stepA call (ev σ) H (.call g xs) = callR call (ev σ g) (xs.map (ev σ)) H := rfl
  simp only [wantedA, if_true, hs]
  cases callR call (ev σ g) (xs.map (ev σ)) H <;> rfl

noncomputable def guardI (call : CallFn) (v : AV) (want : Bool) (d : Option Nat) (op : AOp) (b : Bool) (l : List AOper) (s : List Jtm) (k : KF) (σ : Sig) (H : Heap) : R := match v with
  | .bool t => if t == want then oi call (⟨d, op, none, b⟩ :: l) s k σ H else oi call l s k (putS σ d undefA) H
  | _ => oi call l s k (putS σ d undefA) H
theorem guardI_tt {d : Option Nat} {op : AOp} {b : Bool} {l : List AOper} : guardI call (.bool true) true d op b l s k σ H = oi call (⟨d, op, none, b⟩ :: l) s k σ H := rfl
theorem guardI_ff {d : Option Nat} {op : AOp} {b : Bool} {l : List AOper} : guardI call (.bool false) false d op b l s k σ H = oi call (⟨d, op, none, b⟩ :: l) s k σ H := rfl
theorem guardI_tf {d : Option Nat} {op : AOp} {b : Bool} {l : List AOper} : guardI call (.bool true) false d op b l s k σ H = oi call l s k (putS σ d undefA) H := rfl
theorem guardI_ft {d : Option Nat} {op : AOp} {b : Bool} {l : List AOper} : guardI call (.bool false) true d op b l s k σ H = oi call l s k (putS σ d undefA) H := rfl
theorem oi_guard {d : Option Nat} {op : AOp} {t : Nat} {want b : Bool} {l : List AOper} : oi call (⟨d, op, some (t, want), b⟩ :: l) s k σ H = guardI call (σ t) want d op b l s k σ H := by
  unfold oi
  rw [evalOps]
  simp only [wantedA]
  cases hv : σ t <;> simp only [guardI, Bool.false_eq_true, if_false] <;> try rfl

end


attribute [simp] gi_skip gi_ops gi_seq gi_block gi_loop gi_exit gi_ret ai_nil ai_code ai_code_exit ai_code_ret ai_block ai_block_ret ai_block_exit ai_loop ai_loop_exit ai_loop_ret gi_cond condI_true condI_false oi_nil afterI_some afterHI_some afterHI_none afterHI_same afterHI_new oi_mv oi_pick oi_build oi_load oi_nchk oi_bin oi_eqb oi_eqa oi_eqn oi_un oi_cvi oi_cvbs oi_mkf oi_slc oi_faddr oi_fld oi_iaddr oi_idx oi_idxs oi_ext oi_lkp oi_len oi_lenc oi_cap oi_minmax oi_box oi_alloc oi_bslice oi_store oi_mkm oi_mks oi_mpu oi_app oi_cpy oi_clr oi_call guardI_tt guardI_ff guardI_tf guardI_ft oi_guard

/-- A function's body, entered. -/
noncomputable def enterI (T : Nat → Option AFn) (fd : AFn) (H1 : Heap) (args : List AV) : R :=
  gi (callI T) fd.body [] (fink fd.res fd.fzR H1) (sigOf args) H1.begin
theorem callI_enter {T : Nat → Option AFn} {f : Nat} {fd : AFn} {args : List AV} {H : Heap} {r : AV × Heap} (hf : T f = some fd) (hl : args.length ≤ fd.ntmps) (hz : (fd.fzA || fd.fzR) = false ∨ frzL (frz H.base 6) args H = some (args, H)) (h : enterI T fd H args = some r) : callI T f args H = some r :=
  callI_body hf hl (args' := args) (H1 := H) (pre_eq hz) h
/-- A call marked so is entered with lists that have forgotten what they were made of. -/
theorem callI_relax {T : Nat → Option AFn} {f : Nat} {fd : AFn} {args : List AV} {H H1 : Heap} {r : AV × Heap} (hf : T f = some fd) (hl : args.length ≤ fd.ntmps) (hz : fd.fzA = false) (hr : relaxL fd.fzR args H = H1) (h : enterI T fd H1 args = some r) : callI T f args H = some r :=
  callI_body hf hl (args' := args) (H1 := H1) (by rw [hz, hr]; rfl) h
theorem callI_relax2 {T : Nat → Option AFn} {f : Nat} {fd : AFn} {args : List AV} {H H1 : Heap} {r : AV × Heap} (hf : T f = some fd) (hz : fd.fzA = false) (h1 : relaxL fd.fzR args H = H1) (h2 : relaxL fd.fzR args H1 = H1) (h : callI T f args H1 = some r) : callI T f args H = some r := by
  obtain ⟨n, hn⟩ := callI_ex h
  cases n with
  | zero => cases hn
  | succ n =>
    refine callI_of (n := n + 1) ?_
    simp only [evalCall, hf, hz, h1, h2] at hn ⊢
    exact hn
theorem enterI_eq {T : Nat → Option AFn} {fd : AFn} {H1 : Heap} {args : List AV} : enterI T fd H1 args = gi (callI T) fd.body [] (fink fd.res fd.fzR H1) (sigOf args) H1.begin := rfl
end Go.Mach
