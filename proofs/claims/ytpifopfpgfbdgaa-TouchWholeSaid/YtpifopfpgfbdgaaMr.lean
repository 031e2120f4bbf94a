/-
  Rules by which the machine is run on open terms: the continuation as a row of items. By an AI agent.
-/
import Derived.Test.YtpifopfpgfbdgaaMq
set_option linter.unusedSimpArgs false
set_option linter.unusedVariables false
namespace Go.Mach

inductive Itm where
  | code (c : ACode)
  | inBlock (id : Nat)
  | inLoop (c : ACode) (m : Nat)

def kst (call : CallFn) (n : Nat) : List Itm → KF → KF
  | [], k => k
  | .code c :: s, k => fun e σ H => match e with
    | .nrm => evalK call n c (kst call n s k) σ H
    | e => kst call n s k e σ H
  | .inBlock id :: s, k => fun e σ H => match e with
    | .exit i => if i = id then kst call n s k .nrm σ H else kst call n s k (.exit i) σ H
    | e => kst call n s k e σ H
  | .inLoop c m :: s, k => fun e σ H => match e with
    | .nrm => loopK (evalK call n c) m (kst call n s k) σ H
    | e => kst call n s k e σ H

def go (call : CallFn) (n : Nat) (c : ACode) (s : List Itm) (k : KF) (σ : Sig) (H : Heap) : R := evalK call n c (kst call n s k) σ H
def os (call : CallFn) (n : Nat) (l : List AOper) (s : List Itm) (k : KF) (σ : Sig) (H : Heap) : R := evalOps call l (kst call n s k .nrm) σ H
def ap (call : CallFn) (n : Nat) (s : List Itm) (k : KF) (e : Ex) (σ : Sig) (H : Heap) : R := kst call n s k e σ H
def lp (call : CallFn) (n : Nat) (c : ACode) (m : Nat) (s : List Itm) (k : KF) (σ : Sig) (H : Heap) : R := loopK (evalK call n c) m (kst call n s k) σ H

section
variable {call : CallFn} {n : Nat} {s : List Itm} {k : KF} {σ : Sig} {H : Heap}

theorem go_skip : go call n .skip s k σ H = ap call n s k .nrm σ H := rfl
theorem go_ops {l : List AOper} : go call n (.ops l) s k σ H = os call n l s k σ H := rfl
theorem go_seq {a b : ACode} : go call n (.seq a b) s k σ H = go call n a (.code b :: s) k σ H := rfl
theorem go_block {id : Nat} {c : ACode} : go call n (.block id c) s k σ H = go call n c (.inBlock id :: s) k σ H := rfl
theorem go_loop {c : ACode} : go call n (.loop c) s k σ H = lp call n c n s k σ H := rfl
theorem go_exit {id : Nat} : go call n (.exit id) s k σ H = ap call n s k (.exit id) σ H := rfl
theorem go_ret : go call n .ret s k σ H = ap call n s k .ret σ H := rfl
theorem lp_succ {c : ACode} {m : Nat} : lp call n c (m + 1) s k σ H = go call n c (.inLoop c m :: s) k σ H := rfl
theorem ap_nil {e : Ex} : ap call n [] k e σ H = k e σ H := rfl
theorem ap_code {c : ACode} : ap call n (.code c :: s) k .nrm σ H = go call n c s k σ H := rfl
theorem ap_code_exit {c : ACode} {i : Nat} : ap call n (.code c :: s) k (.exit i) σ H = ap call n s k (.exit i) σ H := rfl
theorem ap_code_ret {c : ACode} : ap call n (.code c :: s) k .ret σ H = ap call n s k .ret σ H := rfl
theorem ap_block {id : Nat} : ap call n (.inBlock id :: s) k .nrm σ H = ap call n s k .nrm σ H := rfl
theorem ap_block_ret {id : Nat} : ap call n (.inBlock id :: s) k .ret σ H = ap call n s k .ret σ H := rfl
theorem ap_block_exit {id i : Nat} : ap call n (.inBlock id :: s) k (.exit i) σ H = if i = id then ap call n s k .nrm σ H else ap call n s k (.exit i) σ H := rfl
theorem ap_loop {c : ACode} {m : Nat} : ap call n (.inLoop c m :: s) k .nrm σ H = lp call n c m s k σ H := rfl
theorem ap_loop_exit {c : ACode} {m i : Nat} : ap call n (.inLoop c m :: s) k (.exit i) σ H = ap call n s k (.exit i) σ H := rfl
theorem ap_loop_ret {c : ACode} {m : Nat} : ap call n (.inLoop c m :: s) k .ret σ H = ap call n s k .ret σ H := rfl

def condC (call : CallFn) (n : Nat) (v : AV) (x y : ACode) (s : List Itm) (k : KF) (σ : Sig) (H : Heap) : R := match v with
  | .bool t => if t then go call n x s k σ H else go call n y s k σ H
  | _ => none
theorem go_cond {c : AOpd} {x y : ACode} : go call n (.cond c x y) s k σ H = condC call n (ev σ c) x y s k σ H := rfl
theorem condC_true {x y : ACode} : condC call n (.bool true) x y s k σ H = go call n x s k σ H := rfl
theorem condC_false {x y : ACode} : condC call n (.bool false) x y s k σ H = go call n y s k σ H := rfl

theorem os_nil : os call n [] s k σ H = ap call n s k .nrm σ H := rfl

/-- One more operation, whose answer is at hand. -/
def after (call : CallFn) (n : Nat) (d : Option Nat) (l : List AOper) (s : List Itm) (k : KF) (σ : Sig) (H : Heap) : Option AV → R
  | some v => os call n l s k (putS σ d v) H
  | none => none
def afterH (call : CallFn) (n : Nat) (d : Option Nat) (solo : Bool) (wc : Nat) (l : List AOper) (s : List Itm) (k : KF) (σ : Sig) : R → R
  | some (v, H') => if solo || H'.wc == wc then os call n l s k (putS σ d v) H' else none
  | none => none
theorem after_some {d : Nat} {l : List AOper} {v : AV} : after call n (some d) l s k σ H (some v) = os call n l s k (upd σ d v) H := rfl
theorem afterH_some {d : Nat} {wc : Nat} {l : List AOper} {v : AV} {H' : Heap} : afterH call n (some d) true wc l s k σ (some (v, H')) = os call n l s k (upd σ d v) H' := rfl
theorem afterH_none {wc : Nat} {l : List AOper} {v : AV} {H' : Heap} : afterH call n none true wc l s k σ (some (v, H')) = os call n l s k σ H' := rfl
theorem afterH_same {d : Nat} {b : Bool} {l : List AOper} {v : AV} : afterH call n (some d) b H.wc l s k σ (some (v, H)) = os call n l s k (upd σ d v) H := by
  simp [afterH, putS]
theorem afterH_new {d : Nat} {b : Bool} {l : List AOper} {v : AV} {o : AObj} : afterH call n (some d) b H.wc l s k σ (some (v, H.new o)) = os call n l s k (upd σ d v) (H.new o) := by
  simp [afterH, putS, Heap.new]

theorem os_pure {d : Option Nat} {op : AOp} {b : Bool} {l : List AOper} (h : isPure op = true) : os call n (⟨d, op, none, b⟩ :: l) s k σ H = after call n d l s k σ H (pureA (ev σ) H op) := by
  unfold os evalOps
  have hc : stepA call (ev σ) H op = match pureA (ev σ) H op with | some v => some (v, H) | none => none := by
    cases op <;> first | rfl | simp [isPure] at h
  simp only [wantedA, if_true, hc]
  cases pureA (ev σ) H op <;> simp [after, os]

theorem os_heap {d : Option Nat} {op : AOp} {b : Bool} {l : List AOper} (h : isPure op = false) (hc : isCall op = false) : os call n (⟨d, op, none, b⟩ :: l) s k σ H = afterH call n d b H.wc l s k σ (heapA (ev σ) H op) := by
  unfold os evalOps
  have hs : stepA call (ev σ) H op = heapA (ev σ) H op := by
    cases op <;> first | rfl | (simp [isPure] at h; done) | (simp [isCall] at hc; done)
  simp only [wantedA, if_true, hs]
  cases heapA (ev σ) H op <;> rfl

theorem os_mv {d : Nat} {x : AOpd} {b : Bool} {l : List AOper} : os call n (⟨some d, .mv x, none, b⟩ :: l) s k σ H = os call n l s k (upd σ d (ev σ x)) H := os_pure rfl

theorem os_pick {d : Option Nat} {b : Bool} {l : List AOper} (c a b0 : AOpd) : os call n (⟨d, .pick c a b0, none, b⟩ :: l) s k σ H = after call n d l s k σ H (pureA (ev σ) H (.pick c a b0)) := os_pure rfl
theorem os_build {d : Option Nat} {b : Bool} {l : List AOper} (zs : List AV) (ps : List (Nat × Nat × AOpd)) : os call n (⟨d, .build zs ps, none, b⟩ :: l) s k σ H = after call n d l s k σ H (pureA (ev σ) H (.build zs ps)) := os_pure rfl
theorem os_load {d : Option Nat} {b : Bool} {l : List AOper} (ag : Bool) (m : Nat) (a : AOpd) : os call n (⟨d, .load ag m a, none, b⟩ :: l) s k σ H = after call n d l s k σ H (pureA (ev σ) H (.load ag m a)) := os_pure rfl
theorem os_nchk {d : Option Nat} {b : Bool} {l : List AOper} (x : AOpd) : os call n (⟨d, .nchk x, none, b⟩ :: l) s k σ H = after call n d l s k σ H (pureA (ev σ) H (.nchk x)) := os_pure rfl
theorem os_bin {d : Option Nat} {b : Bool} {l : List AOper} (o : BinOp) (x y : AOpd) : os call n (⟨d, .bin o x y, none, b⟩ :: l) s k σ H = after call n d l s k σ H (pureA (ev σ) H (.bin o x y)) := os_pure rfl
theorem os_eqb {d : Option Nat} {b : Bool} {l : List AOper} (ng : Bool) (x y : AOpd) : os call n (⟨d, .eqb ng x y, none, b⟩ :: l) s k σ H = after call n d l s k σ H (pureA (ev σ) H (.eqb ng x y)) := os_pure rfl
theorem os_eqa {d : Option Nat} {b : Bool} {l : List AOper} (ng : Bool) (m : Nat) (x y : AOpd) : os call n (⟨d, .eqa ng m x y, none, b⟩ :: l) s k σ H = after call n d l s k σ H (pureA (ev σ) H (.eqa ng m x y)) := os_pure rfl
theorem os_eqn {d : Option Nat} {b : Bool} {l : List AOper} (kd : Nat) (ng : Bool) (x y : AOpd) : os call n (⟨d, .eqn kd ng x y, none, b⟩ :: l) s k σ H = after call n d l s k σ H (pureA (ev σ) H (.eqn kd ng x y)) := os_pure rfl
theorem os_un {d : Option Nat} {b : Bool} {l : List AOper} (o : UnOp) (x : AOpd) : os call n (⟨d, .un o x, none, b⟩ :: l) s k σ H = after call n d l s k σ H (pureA (ev σ) H (.un o x)) := os_pure rfl
theorem os_cvi {d : Option Nat} {b : Bool} {l : List AOper} (ik : IntKind) (x : AOpd) : os call n (⟨d, .cvi ik x, none, b⟩ :: l) s k σ H = after call n d l s k σ H (pureA (ev σ) H (.cvi ik x)) := os_pure rfl
theorem os_cvbs {d : Option Nat} {b : Bool} {l : List AOper} (x : AOpd) : os call n (⟨d, .cvbs x, none, b⟩ :: l) s k σ H = after call n d l s k σ H (pureA (ev σ) H (.cvbs x)) := os_pure rfl
theorem os_mkf {d : Option Nat} {b : Bool} {l : List AOper} (g : Nat) (fs cs : List AOpd) : os call n (⟨d, .mkf g fs cs, none, b⟩ :: l) s k σ H = after call n d l s k σ H (pureA (ev σ) H (.mkf g fs cs)) := os_pure rfl
theorem os_slc {d : Option Nat} {b : Bool} {l : List AOper} (sk : SK) (e : Nat) (x : AOpd) (lo hi mx : Option AOpd) : os call n (⟨d, .slc sk e x lo hi mx, none, b⟩ :: l) s k σ H = after call n d l s k σ H (pureA (ev σ) H (.slc sk e x lo hi mx)) := os_pure rfl
theorem os_faddr {d : Option Nat} {b : Bool} {l : List AOper} (off : Nat) (x : AOpd) : os call n (⟨d, .faddr off x, none, b⟩ :: l) s k σ H = after call n d l s k σ H (pureA (ev σ) H (.faddr off x)) := os_pure rfl
theorem os_fld {d : Option Nat} {b : Bool} {l : List AOper} (ag : Bool) (off m : Nat) (x : AOpd) : os call n (⟨d, .fld ag off m x, none, b⟩ :: l) s k σ H = after call n d l s k σ H (pureA (ev σ) H (.fld ag off m x)) := os_pure rfl
theorem os_iaddr {d : Option Nat} {b : Bool} {l : List AOper} (arr : Option Nat) (e : Nat) (x i : AOpd) : os call n (⟨d, .iaddr arr e x i, none, b⟩ :: l) s k σ H = after call n d l s k σ H (pureA (ev σ) H (.iaddr arr e x i)) := os_pure rfl
theorem os_idx {d : Option Nat} {b : Bool} {l : List AOper} (ag : Bool) (m e : Nat) (x i : AOpd) : os call n (⟨d, .idx ag m e x i, none, b⟩ :: l) s k σ H = after call n d l s k σ H (pureA (ev σ) H (.idx ag m e x i)) := os_pure rfl
theorem os_idxs {d : Option Nat} {b : Bool} {l : List AOper} (x i : AOpd) : os call n (⟨d, .idxs x i, none, b⟩ :: l) s k σ H = after call n d l s k σ H (pureA (ev σ) H (.idxs x i)) := os_pure rfl
theorem os_ext {d : Option Nat} {b : Bool} {l : List AOper} (x : AOpd) (i : Nat) : os call n (⟨d, .ext x i, none, b⟩ :: l) s k σ H = after call n d l s k σ H (pureA (ev σ) H (.ext x i)) := os_pure rfl
theorem os_lkp {d : Option Nat} {b : Bool} {l : List AOper} (st : Bool) (z : AV) (o : Bool) (m q : AOpd) : os call n (⟨d, .lkp st z o m q, none, b⟩ :: l) s k σ H = after call n d l s k σ H (pureA (ev σ) H (.lkp st z o m q)) := os_pure rfl
theorem os_len {d : Option Nat} {b : Bool} {l : List AOper} (kd : Nat) (x : AOpd) : os call n (⟨d, .len kd x, none, b⟩ :: l) s k σ H = after call n d l s k σ H (pureA (ev σ) H (.len kd x)) := os_pure rfl
theorem os_lenc {d : Option Nat} {b : Bool} {l : List AOper} (m : Nat) : os call n (⟨d, .lenc m, none, b⟩ :: l) s k σ H = after call n d l s k σ H (pureA (ev σ) H (.lenc m)) := os_pure rfl
theorem os_cap {d : Option Nat} {b : Bool} {l : List AOper} (x : AOpd) : os call n (⟨d, .cap x, none, b⟩ :: l) s k σ H = after call n d l s k σ H (pureA (ev σ) H (.cap x)) := os_pure rfl
theorem os_minmax {d : Option Nat} {b : Bool} {l : List AOper} (mx : Bool) (xs : List AOpd) : os call n (⟨d, .minmax mx xs, none, b⟩ :: l) s k σ H = after call n d l s k σ H (pureA (ev σ) H (.minmax mx xs)) := os_pure rfl
theorem os_box {d : Option Nat} {b : Bool} {l : List AOper} (x : AOpd) : os call n (⟨d, .box x, none, b⟩ :: l) s k σ H = afterH call n d b H.wc l s k σ (heapA (ev σ) H (.box x)) := os_heap rfl rfl
theorem os_alloc {d : Option Nat} {b : Bool} {l : List AOper} (zs : List AV) : os call n (⟨d, .alloc zs, none, b⟩ :: l) s k σ H = afterH call n d b H.wc l s k σ (heapA (ev σ) H (.alloc zs)) := os_heap rfl rfl
theorem os_bslice {d : Option Nat} {b : Bool} {l : List AOper} (m e : Nat) (zs : List AV) (ps : List (Nat × Nat × AOpd)) : os call n (⟨d, .bslice m e zs ps, none, b⟩ :: l) s k σ H = afterH call n d b H.wc l s k σ (heapA (ev σ) H (.bslice m e zs ps)) := os_heap rfl rfl
theorem os_store {d : Option Nat} {b : Bool} {l : List AOper} (m : Nat) (a x : AOpd) : os call n (⟨d, .store m a x, none, b⟩ :: l) s k σ H = afterH call n d b H.wc l s k σ (heapA (ev σ) H (.store m a x)) := os_heap rfl rfl
theorem os_mkm {d : Option Nat} {b : Bool} {l : List AOper} (h : Option AOpd) : os call n (⟨d, .mkm h, none, b⟩ :: l) s k σ H = afterH call n d b H.wc l s k σ (heapA (ev σ) H (.mkm h)) := os_heap rfl rfl
theorem os_mks {d : Option Nat} {b : Bool} {l : List AOper} (e : Nat) (zs : List AV) (bs : Nat) (len cp : AOpd) : os call n (⟨d, .mks e zs bs len cp, none, b⟩ :: l) s k σ H = afterH call n d b H.wc l s k σ (heapA (ev σ) H (.mks e zs bs len cp)) := os_heap rfl rfl
theorem os_mpu {d : Option Nat} {b : Bool} {l : List AOper} (st : Bool) (m q v : AOpd) : os call n (⟨d, .mpu st m q v, none, b⟩ :: l) s k σ H = afterH call n d b H.wc l s k σ (heapA (ev σ) H (.mpu st m q v)) := os_heap rfl rfl
theorem os_app {d : Option Nat} {b : Bool} {l : List AOper} (e bs : Nat) (x y : AOpd) : os call n (⟨d, .app e bs x y, none, b⟩ :: l) s k σ H = afterH call n d b H.wc l s k σ (heapA (ev σ) H (.app e bs x y)) := os_heap rfl rfl
theorem os_cpy {d : Option Nat} {b : Bool} {l : List AOper} (e : Nat) (x y : AOpd) : os call n (⟨d, .cpy e x y, none, b⟩ :: l) s k σ H = afterH call n d b H.wc l s k σ (heapA (ev σ) H (.cpy e x y)) := os_heap rfl rfl
theorem os_clr {d : Option Nat} {b : Bool} {l : List AOper} (e : Nat) (zs : List AV) (x : AOpd) : os call n (⟨d, .clr e zs x, none, b⟩ :: l) s k σ H = afterH call n d b H.wc l s k σ (heapA (ev σ) H (.clr e zs x)) := os_heap rfl rfl

def callR (call : CallFn) (v : AV) (args : List AV) (H : Heap) : R := match v with
  | .fn n first caps => call n (first ++ args ++ caps) H
  | _ => none
theorem callR_fn {g : Nat} {first caps args : List AV} : callR call (.fn g first caps) args H = call g (first ++ args ++ caps) H := rfl
theorem os_call {d : Option Nat} {g : AOpd} {xs : List AOpd} {b : Bool} {l : List AOper} : os call n (⟨d, .call g xs, none, b⟩ :: l) s k σ H = afterH call n d b H.wc l s k σ (callR call (ev σ g) (xs.map (ev σ)) H) := by
  unfold os evalOps
  have hs : stepA call (ev σ) H (.call g xs) = callR call (ev σ g) (xs.map (ev σ)) H := rfl
  simp only [wantedA, if_true, hs]
  cases callR call (ev σ g) (xs.map (ev σ)) H <;> rfl

def guardC (call : CallFn) (n : Nat) (v : AV) (want : Bool) (d : Option Nat) (op : AOp) (b : Bool) (l : List AOper) (s : List Itm) (k : KF) (σ : Sig) (H : Heap) : R := match v with
  | .bool t => if t == want then os call n (⟨d, op, none, b⟩ :: l) s k σ H else os call n l s k (putS σ d undefA) H
  | _ => os call n l s k (putS σ d undefA) H
theorem guardC_tt {d : Option Nat} {op : AOp} {b : Bool} {l : List AOper} : guardC call n (.bool true) true d op b l s k σ H = os call n (⟨d, op, none, b⟩ :: l) s k σ H := rfl
theorem guardC_ff {d : Option Nat} {op : AOp} {b : Bool} {l : List AOper} : guardC call n (.bool false) false d op b l s k σ H = os call n (⟨d, op, none, b⟩ :: l) s k σ H := rfl
theorem guardC_tf {d : Option Nat} {op : AOp} {b : Bool} {l : List AOper} : guardC call n (.bool true) false d op b l s k σ H = os call n l s k (putS σ d undefA) H := rfl
theorem guardC_ft {d : Option Nat} {op : AOp} {b : Bool} {l : List AOper} : guardC call n (.bool false) true d op b l s k σ H = os call n l s k (putS σ d undefA) H := rfl
theorem os_guard {d : Option Nat} {op : AOp} {t : Nat} {want b : Bool} {l : List AOper} : os call n (⟨d, op, some (t, want), b⟩ :: l) s k σ H = guardC call n (σ t) want d op b l s k σ H := by
  unfold os
  rw [evalOps]
  simp only [wantedA]
  cases hv : σ t <;> simp only [guardC, Bool.false_eq_true, if_false] <;> try rfl

theorem ev_t {t : Nat} : ev σ (.t t) = σ t := rfl
theorem ev_c {v : AV} : ev σ (.c v) = v := rfl
theorem upd_app {α : Type} (f : Nat → α) (i : Nat) (a : α) (j : Nat) : upd f i a j = if j = i then a else f j := rfl
end

/-- Behind a function's body. -/
def fink (res : List ARes) (fzR : Bool) (H1 : Heap) : KF := fun e σ H2 => match e with
  | .exit _ => none
  | _ => match resL σ H2 res with
    | none => none
    | some vs => match (if fzR then frz H1.next 6 H2 (tupA vs) else some (tupA vs, H2)) with
      | none => none
      | some (v, H3) => some (wrapA H1 v H3)
def finR (fzR : Bool) (H1 H2 : Heap) : Option (List AV) → R
  | none => none
  | some vs => match (if fzR then frz H1.next 6 H2 (tupA vs) else some (tupA vs, H2)) with
    | none => none
    | some (v, H3) => some (wrapA H1 v H3)
def wrapR (H1 : Heap) : R → R
  | none => none
  | some (v, H3) => some (wrapA H1 v H3)
theorem fink_nrm {res : List ARes} {fzR : Bool} {H1 : Heap} {σ : Sig} {H2 : Heap} : fink res fzR H1 .nrm σ H2 = finR fzR H1 H2 (resL σ H2 res) := by
  simp only [fink, finR]
theorem fink_ret {res : List ARes} {fzR : Bool} {H1 : Heap} {σ : Sig} {H2 : Heap} : fink res fzR H1 .ret σ H2 = finR fzR H1 H2 (resL σ H2 res) := by
  simp only [fink, finR]
theorem finR_true {H1 H2 : Heap} {vs : List AV} : finR true H1 H2 (some vs) = wrapR H1 (frz H1.next 6 H2 (tupA vs)) := by
  simp only [finR, if_true]
  cases frz H1.next 6 H2 (tupA vs) <;> rfl
theorem finR_false {H1 H2 : Heap} {vs : List AV} : finR false H1 H2 (some vs) = some (wrapA H1 (tupA vs) H2) := rfl
theorem wrapR_some {H1 H3 : Heap} {v : AV} : wrapR H1 (some (v, H3)) = some (wrapA H1 v H3) := rfl
/-- A call that wrote nothing of the caller's, and whose answer bears nothing new. -/
theorem wrap_quiet {H1 H3 : Heap} {v : AV} (hw : H3.ws = []) (hv : v.noNew H1.next 4 = true) : wrapA H1 v H3 = (v, H1) := by
  unfold wrapA
  rw [hw]
  simp [hv]

/-- A function's body, entered. -/
def enter (T : Nat → Option AFn) (n : Nat) (fd : AFn) (H1 : Heap) (args : List AV) : R :=
  go (evalCall T n) n fd.body [] (fink fd.res fd.fzR H1) (sigOf args) H1.begin

theorem frz_old {b n : Nat} {H H' : Heap} {id off len lo e : Nat} {ex : Bool} {v : AV} (h : frz b (n + 1) H v = some (v, H')) (hv : v = .sl id off len lo ex e) : id < b := by
  subst hv
  unfold frz at h
  by_cases hb : id < b
  · exact hb
  · simp only [if_neg hb] at h
    (repeat' split at h) <;> (cases h)
theorem relax_old {n : Nat} {H H' H2 : Heap} {v : AV} (h : frz H.base (n + 1) H' v = some (v, H2)) : relax H v = H := by
  rcases relax_cases H v with e | ⟨id, cs, r, ho, h1, h2, e⟩
  · exact e
  · cases v with
    | sl id off len lo ex e =>
      have := frz_old h rfl
      simp only [relax]
      split
      · rw [if_neg (by omega)]
      · rfl
    | _ => rfl
theorem relaxL_old {n b : Nat} {q : Bool} : ∀ (args : List AV) {H H' H2 : Heap}, H.base = b → frzL (frz b (n + 1)) args H' = some (args, H2) → relaxL q args H = H := by
  intro args H H' H2 hb h
  unfold relaxL
  split
  · induction args generalizing H H' H2 with
    | nil => rfl
    | cons v l ih =>
      simp only [frzL] at h
      split at h
      · cases h
      · rename_i v' H1 h1
        split at h
        · cases h
        · rename_i l' H3 h3
          cases h
          have e := relax_old (H := H) (n := n) (v := v) (by rw [hb]; exact h1)
          simp only [List.foldl_cons, e]
          exact ih hb h3
  · rfl
theorem pre_eq {fd : AFn} {args : List AV} {H : Heap} (hz : (fd.fzA || fd.fzR) = false ∨ frzL (frz H.base 6) args H = some (args, H)) : (if fd.fzA = true then frzL (frz H.base 6) args H else some (args, relaxL fd.fzR args H)) = some (args, H) := by
  rcases hz with h | h
  · rw [Bool.or_eq_false_iff] at h; rw [h.1, h.2]; rfl
  · split
    · exact h
    · rw [relaxL_old args rfl h]
theorem call_enter {T : Nat → Option AFn} {n f : Nat} {fd : AFn} {args : List AV} {H : Heap} (hf : T f = some fd) (hl : args.length ≤ fd.ntmps) (hz : (fd.fzA || fd.fzR) = false ∨ frzL (frz H.base 6) args H = some (args, H)) : evalCall T (n + 1) f args H = enter T n fd H args := by
  simp only [evalCall, hf, if_pos hl]
  have : (if fd.fzA = true then frzL (frz H.base 6) args H else some (args, relaxL fd.fzR args H)) = some (args, H) := pre_eq hz
  simp only [this]
  rfl

/-! ### Looking up -/
theorem sigOf_nil {t : Nat} : sigOf [] t = undefA := rfl
theorem sigOf_zero {v : AV} {l : List AV} : sigOf (v :: l) 0 = v := rfl
theorem sigOf_succ {v : AV} {l : List AV} {t : Nat} : sigOf (v :: l) (t + 1) = sigOf l t := rfl
theorem new_obj {H : Heap} {o : AObj} {i : Nat} : (H.new o).obj i = if i = H.next then o else H.obj i := rfl
theorem new_next {H : Heap} {o : AObj} : (H.new o).next = H.next + 1 := rfl
theorem new_base {H : Heap} {o : AObj} : (H.new o).base = H.base := rfl
theorem new_ws {H : Heap} {o : AObj} : (H.new o).ws = H.ws := rfl
theorem new_wc {H : Heap} {o : AObj} : (H.new o).wc = H.wc := rfl
theorem set_obj {H : Heap} {o : AObj} {i j : Nat} : (H.set i o).obj j = if j = i then o else H.obj j := rfl
theorem set_next {H : Heap} {o : AObj} {i : Nat} : (H.set i o).next = H.next := rfl
theorem set_base {H : Heap} {o : AObj} {i : Nat} : (H.set i o).base = H.base := rfl
theorem set_ws {H : Heap} {o : AObj} {i : Nat} : (H.set i o).ws = if i < H.base then i :: H.ws else H.ws := rfl
theorem begin_obj {H : Heap} : H.begin.obj = H.obj := rfl
theorem begin_next {H : Heap} : H.begin.next = H.next := rfl
theorem begin_base {H : Heap} : H.begin.base = H.next := rfl
theorem begin_ws {H : Heap} : H.begin.ws = [] := rfl
theorem kill_none {H : Heap} : H.kill none = H := rfl

attribute [simp] go_skip go_ops go_seq go_block go_loop go_exit go_ret lp_succ ap_nil ap_code ap_code_exit ap_code_ret ap_block ap_block_ret ap_block_exit ap_loop ap_loop_exit ap_loop_ret go_cond condC_true condC_false os_nil after_some
  afterH_some afterH_none afterH_same afterH_new os_pick os_build os_load os_nchk os_bin os_eqb os_eqa os_eqn os_un os_cvi os_cvbs os_mkf os_slc os_faddr os_fld os_iaddr os_idx os_idxs os_ext os_lkp os_len os_lenc os_cap os_minmax os_box os_alloc os_bslice os_store os_mkm os_mks os_mpu os_app os_cpy os_clr os_mv callR_fn os_call guardC_tt guardC_ff guardC_tf guardC_ft os_guard ev_t ev_c upd_app fink_nrm fink_ret finR_true finR_false wrapR_some enter sigOf_nil sigOf_zero sigOf_succ
  new_obj new_next new_base new_ws set_obj set_next set_base set_ws begin_obj begin_next begin_base begin_ws kill_none pureA putS
/-! ### Memory -/
def rdO : AObj → Option (List AV)
  | .cells cs _ => some cs
  | .frz cs => some cs
  | _ => none
theorem read_eq {H : Heap} {i : Nat} : H.read i = rdO (H.obj i) := by
  unfold Heap.read rdO
  cases H.obj i <;> rfl
theorem rdO_cells {cs : List AV} {rel : Option Nat} : rdO (.cells cs rel) = some cs := rfl
theorem rdO_frz {cs : List AV} : rdO (.frz cs) = some cs := rfl
def partO (ag : Bool) (m off : Nat) : Option (List AV) → Option AV
  | some cs => part ag m cs off
  | none => none
theorem partO_some {ag : Bool} {m off : Nat} {cs : List AV} : partO ag m off (some cs) = part ag m cs off := rfl
theorem loadA_ptr {H : Heap} {ag : Bool} {m id off : Nat} : loadA H ag m (.ptr id off) = partO ag m off (H.read id) := by
  unfold loadA partO
  simp only
  generalize H.read id = x
  cases x <;> rfl
theorem loadA_pv {H : Heap} {ag : Bool} {m off : Nat} {cs : List AV} : loadA H ag m (.pv cs off) = part ag m cs off := rfl
theorem part_false {m off : Nat} {cs : List AV} : part false m cs off = cs[off]? := rfl
theorem part_true {m off : Nat} {cs : List AV} : part true m cs off = if off + m ≤ cs.length then some (.agg ((cs.drop off).take m)) else none := rfl
def stO (H : Heap) (n id off : Nat) (o : AObj) : Option (List AV) → Option Heap
  | some xs => match o with
    | .cells cs rel => if xs.length = n ∧ off + n ≤ cs.length then some ((H.kill rel).set id (.cells (put cs off xs) none)) else none
    | _ => none
  | none => none
theorem stO_some {H : Heap} {n id off : Nat} {cs xs : List AV} {rel : Option Nat} : stO H n id off (.cells cs rel) (some xs) = if xs.length = n ∧ off + n ≤ cs.length then some ((H.kill rel).set id (.cells (put cs off xs) none)) else none := rfl
theorem storeA_ptr {H : Heap} {n id off : Nat} {x : AV} : storeA H n (.ptr id off) x = stO H n id off (H.obj id) x.flat := by
  unfold storeA stO
  cases x.flat with
  | none => rfl
  | some xs =>
    simp only
    cases H.obj id <;> rfl
def stR : Option Heap → R
  | some H' => some (undefA, H')
  | none => none
theorem stR_some {H : Heap} : stR (some H) = some (undefA, H) := rfl
theorem heapA_store {f : AOpd → AV} {H : Heap} {n : Nat} {a x : AOpd} : heapA f H (.store n a x) = stR (storeA H n (f a) (f x)) := by
  simp only [heapA]
  cases storeA H n (f a) (f x) <;> rfl
def boxR (H : Heap) : Option (List AV) → R
  | some cs => some (.ptr H.next 0, H.new (.cells cs none))
  | none => none
theorem boxR_some {H : Heap} {cs : List AV} : boxR H (some cs) = some (.ptr H.next 0, H.new (.cells cs none)) := rfl
theorem heapA_box {f : AOpd → AV} {H : Heap} {x : AOpd} : heapA f H (.box x) = boxR H (f x).flat := by
  simp only [heapA]
  cases (f x).flat <;> rfl
theorem heapA_alloc {f : AOpd → AV} {H : Heap} {z : List AV} : heapA f H (.alloc z) = some (.ptr H.next 0, H.new (.cells z none)) := rfl
theorem put_nil {cs : List AV} {off : Nat} : put cs off [] = cs := rfl
theorem put_cons {cs : List AV} {off : Nat} {x : AV} {xs : List AV} : put cs off (x :: xs) = put (cs.set off x) (off + 1) xs := rfl
theorem flat_int {k : IntKind} {x : Int} : (AV.int k x).flat = some [.int k x] := rfl
theorem flat_bool {x : Bool} : (AV.bool x).flat = some [.bool x] := rfl
theorem flat_agg {l : List AV} : (AV.agg l).flat = some l := rfl
theorem flat_nils : AV.nils.flat = some [.nils] := rfl
theorem flat_vec {m : Nat} {ex : Bool} {l : List AV} : (AV.vec m ex l).flat = some [.vec m ex l] := rfl
theorem flat_sl {a b c d : Nat} {ex : Bool} {e : Nat} : (AV.sl a b c d ex e).flat = some [.sl a b c d ex e] := rfl
theorem flat_fn {g : Nat} {a b : List AV} : (AV.fn g a b).flat = some [.fn g a b] := rfl
theorem noNew_int {b : Nat} {k : IntKind} {x : Int} {m : Nat} : (AV.int k x).noNew b (m + 1) = true := rfl
theorem noNew_bool {b m : Nat} {x : Bool} : (AV.bool x).noNew b (m + 1) = true := rfl
theorem noNew_nils {b m : Nat} : AV.nils.noNew b (m + 1) = true := rfl
theorem noNew_vec {b m j : Nat} {ex : Bool} {l : List AV} : (AV.vec j ex l).noNew b (m + 1) = true := rfl
theorem noNew_agg {b m : Nat} {l : List AV} : (AV.agg l).noNew b (m + 1) = l.all (AV.noNew b m) := rfl
theorem noNew_tup {b m : Nat} {l : List AV} : (AV.tup l).noNew b (m + 1) = l.all (AV.noNew b m) := rfl
theorem frz_int {b m : Nat} {H : Heap} {k : IntKind} {x : Int} : frz b (m + 1) H (.int k x) = some (.int k x, H) := rfl
theorem frz_bool {b m : Nat} {H : Heap} {x : Bool} : frz b (m + 1) H (.bool x) = some (.bool x, H) := rfl
theorem frz_nils {b m : Nat} {H : Heap} : frz b (m + 1) H .nils = some (.nils, H) := rfl
theorem frz_vec {b m j : Nat} {ex : Bool} {l : List AV} {H : Heap} : frz b (m + 1) H (.vec j ex l) = some (.vec j ex l, H) := rfl
theorem frz_fn {b m g : Nat} {p q : List AV} {H : Heap} : frz b (m + 1) H (.fn g p q) = some (.fn g p q, H) := rfl
theorem frz_ptr {b m g o : Nat} {H : Heap} : frz b (m + 1) H (.ptr g o) = some (.ptr g o, H) := rfl
def aggR : Option (List AV × Heap) → R
  | some (cs, H) => some (.agg cs, H)
  | none => none
def tupR : Option (List AV × Heap) → R
  | some (cs, H) => some (.tup cs, H)
  | none => none
theorem aggR_some {cs : List AV} {H : Heap} : aggR (some (cs, H)) = some (.agg cs, H) := rfl
theorem tupR_some {cs : List AV} {H : Heap} : tupR (some (cs, H)) = some (.tup cs, H) := rfl
theorem frz_agg {b m : Nat} {l : List AV} {H : Heap} : frz b (m + 1) H (.agg l) = aggR (frzL (frz b m) l H) := by
  rw [frz]; cases frzL (frz b m) l H <;> rfl
theorem frz_tup {b m : Nat} {l : List AV} {H : Heap} : frz b (m + 1) H (.tup l) = tupR (frzL (frz b m) l H) := by
  rw [frz]; cases frzL (frz b m) l H <;> rfl
theorem frzL_nil {fz : Heap → AV → R} {H : Heap} : frzL fz [] H = some ([], H) := rfl
def consR (v : AV) : Option (List AV × Heap) → Option (List AV × Heap)
  | some (l, H) => some (v :: l, H)
  | none => none
def frzC (fz : Heap → AV → R) (l : List AV) : R → Option (List AV × Heap)
  | some (v, H) => consR v (frzL fz l H)
  | none => none
theorem consR_some {v : AV} {l : List AV} {H : Heap} : consR v (some (l, H)) = some (v :: l, H) := rfl
theorem frzC_some {fz : Heap → AV → R} {l : List AV} {v : AV} {H : Heap} : frzC fz l (some (v, H)) = consR v (frzL fz l H) := rfl
theorem frzL_cons {fz : Heap → AV → R} {H : Heap} {v : AV} {l : List AV} : frzL fz (v :: l) H = frzC fz l (fz H v) := by
  rw [frzL]
  cases h : fz H v with
  | none => rfl
  | some p =>
    obtain ⟨v', H1⟩ := p
    simp only [frzC]
    cases frzL fz l H1 <;> rfl
theorem resL_nil {σ : Sig} {H : Heap} : resL σ H [] = some [] := rfl
def consO : Option AV → Option (List AV) → Option (List AV)
  | some v, some l => some (v :: l)
  | _, _ => none
theorem consO_some {v : AV} {l : List AV} : consO (some v) (some l) = some (v :: l) := rfl
theorem resL_cons {σ : Sig} {H : Heap} {r : ARes} {rs : List ARes} : resL σ H (r :: rs) = consO (resA σ H r) (resL σ H rs) := by
  rw [resL]
  cases resA σ H r <;> cases resL σ H rs <;> rfl
theorem resA_tmp {σ : Sig} {H : Heap} {t : Nat} : resA σ H (.tmp t) = some (σ t) := rfl
theorem resA_cell {σ : Sig} {H : Heap} {t m : Nat} {ag : Bool} : resA σ H (.cell t ag m) = loadA H ag m (σ t) := rfl
theorem tupA_one {v : AV} : tupA [v] = v := rfl
theorem tupA_two {v u : AV} {l : List AV} : tupA (v :: u :: l) = .tup (v :: u :: l) := rfl
theorem tupA_nil : tupA [] = .tup [] := rfl

theorem noNew_int4 {b : Nat} {k : IntKind} {x : Int} : (AV.int k x).noNew b 4 = true := rfl
theorem noNew_bool4 {b : Nat} {x : Bool} : (AV.bool x).noNew b 4 = true := rfl
theorem noNew_nils4 {b : Nat} : AV.nils.noNew b 4 = true := rfl
theorem noNew_vec4 {b j : Nat} {ex : Bool} {l : List AV} : (AV.vec j ex l).noNew b 4 = true := rfl
theorem noNew_agg4 {b : Nat} {l : List AV} : (AV.agg l).noNew b 4 = l.all (AV.noNew b 3) := rfl
theorem noNew_tup4 {b : Nat} {l : List AV} : (AV.tup l).noNew b 4 = l.all (AV.noNew b 3) := rfl
theorem noNew_int3 {b : Nat} {k : IntKind} {x : Int} : (AV.int k x).noNew b 3 = true := rfl
theorem noNew_bool3 {b : Nat} {x : Bool} : (AV.bool x).noNew b 3 = true := rfl
theorem noNew_nils3 {b : Nat} : AV.nils.noNew b 3 = true := rfl
theorem noNew_vec3 {b j : Nat} {ex : Bool} {l : List AV} : (AV.vec j ex l).noNew b 3 = true := rfl
theorem noNew_agg3 {b : Nat} {l : List AV} : (AV.agg l).noNew b 3 = l.all (AV.noNew b 2) := rfl
theorem noNew_tup3 {b : Nat} {l : List AV} : (AV.tup l).noNew b 3 = l.all (AV.noNew b 2) := rfl
theorem noNew_int2 {b : Nat} {k : IntKind} {x : Int} : (AV.int k x).noNew b 2 = true := rfl
theorem noNew_bool2 {b : Nat} {x : Bool} : (AV.bool x).noNew b 2 = true := rfl
theorem noNew_nils2 {b : Nat} : AV.nils.noNew b 2 = true := rfl
theorem noNew_vec2 {b j : Nat} {ex : Bool} {l : List AV} : (AV.vec j ex l).noNew b 2 = true := rfl
theorem noNew_agg2 {b : Nat} {l : List AV} : (AV.agg l).noNew b 2 = l.all (AV.noNew b 1) := rfl
theorem noNew_tup2 {b : Nat} {l : List AV} : (AV.tup l).noNew b 2 = l.all (AV.noNew b 1) := rfl
theorem noNew_int1 {b : Nat} {k : IntKind} {x : Int} : (AV.int k x).noNew b 1 = true := rfl
theorem noNew_bool1 {b : Nat} {x : Bool} : (AV.bool x).noNew b 1 = true := rfl
theorem noNew_nils1 {b : Nat} : AV.nils.noNew b 1 = true := rfl
theorem noNew_vec1 {b j : Nat} {ex : Bool} {l : List AV} : (AV.vec j ex l).noNew b 1 = true := rfl
theorem noNew_agg1 {b : Nat} {l : List AV} : (AV.agg l).noNew b 1 = l.all (AV.noNew b 0) := rfl
theorem noNew_tup1 {b : Nat} {l : List AV} : (AV.tup l).noNew b 1 = l.all (AV.noNew b 0) := rfl
theorem frz_int6 {b : Nat} {H : Heap} {k : IntKind} {x : Int} : frz b 6 H (.int k x) = some (.int k x, H) := rfl
theorem frz_bool6 {b : Nat} {H : Heap} {x : Bool} : frz b 6 H (.bool x) = some (.bool x, H) := rfl
theorem frz_nils6 {b : Nat} {H : Heap}  : frz b 6 H (.nils) = some (.nils, H) := rfl
theorem frz_vec6 {b : Nat} {H : Heap} {j : Nat} {ex : Bool} {l : List AV} : frz b 6 H (.vec j ex l) = some (.vec j ex l, H) := rfl
theorem frz_fn6 {b : Nat} {H : Heap} {g : Nat} {p q : List AV} : frz b 6 H (.fn g p q) = some (.fn g p q, H) := rfl
theorem frz_ptr6 {b : Nat} {H : Heap} {g o : Nat} : frz b 6 H (.ptr g o) = some (.ptr g o, H) := rfl
theorem frz_agg6 {b : Nat} {l : List AV} {H : Heap} : frz b 6 H (.agg l) = aggR (frzL (frz b 5) l H) := frz_agg
theorem frz_tup6 {b : Nat} {l : List AV} {H : Heap} : frz b 6 H (.tup l) = tupR (frzL (frz b 5) l H) := frz_tup
theorem frz_int5 {b : Nat} {H : Heap} {k : IntKind} {x : Int} : frz b 5 H (.int k x) = some (.int k x, H) := rfl
theorem frz_bool5 {b : Nat} {H : Heap} {x : Bool} : frz b 5 H (.bool x) = some (.bool x, H) := rfl
theorem frz_nils5 {b : Nat} {H : Heap}  : frz b 5 H (.nils) = some (.nils, H) := rfl
theorem frz_vec5 {b : Nat} {H : Heap} {j : Nat} {ex : Bool} {l : List AV} : frz b 5 H (.vec j ex l) = some (.vec j ex l, H) := rfl
theorem frz_fn5 {b : Nat} {H : Heap} {g : Nat} {p q : List AV} : frz b 5 H (.fn g p q) = some (.fn g p q, H) := rfl
theorem frz_ptr5 {b : Nat} {H : Heap} {g o : Nat} : frz b 5 H (.ptr g o) = some (.ptr g o, H) := rfl
theorem frz_agg5 {b : Nat} {l : List AV} {H : Heap} : frz b 5 H (.agg l) = aggR (frzL (frz b 4) l H) := frz_agg
theorem frz_tup5 {b : Nat} {l : List AV} {H : Heap} : frz b 5 H (.tup l) = tupR (frzL (frz b 4) l H) := frz_tup
theorem frz_int4 {b : Nat} {H : Heap} {k : IntKind} {x : Int} : frz b 4 H (.int k x) = some (.int k x, H) := rfl
theorem frz_bool4 {b : Nat} {H : Heap} {x : Bool} : frz b 4 H (.bool x) = some (.bool x, H) := rfl
theorem frz_nils4 {b : Nat} {H : Heap}  : frz b 4 H (.nils) = some (.nils, H) := rfl
theorem frz_vec4 {b : Nat} {H : Heap} {j : Nat} {ex : Bool} {l : List AV} : frz b 4 H (.vec j ex l) = some (.vec j ex l, H) := rfl
theorem frz_fn4 {b : Nat} {H : Heap} {g : Nat} {p q : List AV} : frz b 4 H (.fn g p q) = some (.fn g p q, H) := rfl
theorem frz_ptr4 {b : Nat} {H : Heap} {g o : Nat} : frz b 4 H (.ptr g o) = some (.ptr g o, H) := rfl
theorem frz_agg4 {b : Nat} {l : List AV} {H : Heap} : frz b 4 H (.agg l) = aggR (frzL (frz b 3) l H) := frz_agg
theorem frz_tup4 {b : Nat} {l : List AV} {H : Heap} : frz b 4 H (.tup l) = tupR (frzL (frz b 3) l H) := frz_tup
theorem frz_int3 {b : Nat} {H : Heap} {k : IntKind} {x : Int} : frz b 3 H (.int k x) = some (.int k x, H) := rfl
theorem frz_bool3 {b : Nat} {H : Heap} {x : Bool} : frz b 3 H (.bool x) = some (.bool x, H) := rfl
theorem frz_nils3 {b : Nat} {H : Heap}  : frz b 3 H (.nils) = some (.nils, H) := rfl
theorem frz_vec3 {b : Nat} {H : Heap} {j : Nat} {ex : Bool} {l : List AV} : frz b 3 H (.vec j ex l) = some (.vec j ex l, H) := rfl
theorem frz_fn3 {b : Nat} {H : Heap} {g : Nat} {p q : List AV} : frz b 3 H (.fn g p q) = some (.fn g p q, H) := rfl
theorem frz_ptr3 {b : Nat} {H : Heap} {g o : Nat} : frz b 3 H (.ptr g o) = some (.ptr g o, H) := rfl
theorem frz_agg3 {b : Nat} {l : List AV} {H : Heap} : frz b 3 H (.agg l) = aggR (frzL (frz b 2) l H) := frz_agg
theorem frz_tup3 {b : Nat} {l : List AV} {H : Heap} : frz b 3 H (.tup l) = tupR (frzL (frz b 2) l H) := frz_tup
theorem frz_int2 {b : Nat} {H : Heap} {k : IntKind} {x : Int} : frz b 2 H (.int k x) = some (.int k x, H) := rfl
theorem frz_bool2 {b : Nat} {H : Heap} {x : Bool} : frz b 2 H (.bool x) = some (.bool x, H) := rfl
theorem frz_nils2 {b : Nat} {H : Heap}  : frz b 2 H (.nils) = some (.nils, H) := rfl
theorem frz_vec2 {b : Nat} {H : Heap} {j : Nat} {ex : Bool} {l : List AV} : frz b 2 H (.vec j ex l) = some (.vec j ex l, H) := rfl
theorem frz_fn2 {b : Nat} {H : Heap} {g : Nat} {p q : List AV} : frz b 2 H (.fn g p q) = some (.fn g p q, H) := rfl
theorem frz_ptr2 {b : Nat} {H : Heap} {g o : Nat} : frz b 2 H (.ptr g o) = some (.ptr g o, H) := rfl
theorem frz_agg2 {b : Nat} {l : List AV} {H : Heap} : frz b 2 H (.agg l) = aggR (frzL (frz b 1) l H) := frz_agg
theorem frz_tup2 {b : Nat} {l : List AV} {H : Heap} : frz b 2 H (.tup l) = tupR (frzL (frz b 1) l H) := frz_tup
theorem frz_int1 {b : Nat} {H : Heap} {k : IntKind} {x : Int} : frz b 1 H (.int k x) = some (.int k x, H) := rfl
theorem frz_bool1 {b : Nat} {H : Heap} {x : Bool} : frz b 1 H (.bool x) = some (.bool x, H) := rfl
theorem frz_nils1 {b : Nat} {H : Heap}  : frz b 1 H (.nils) = some (.nils, H) := rfl
theorem frz_vec1 {b : Nat} {H : Heap} {j : Nat} {ex : Bool} {l : List AV} : frz b 1 H (.vec j ex l) = some (.vec j ex l, H) := rfl
theorem frz_fn1 {b : Nat} {H : Heap} {g : Nat} {p q : List AV} : frz b 1 H (.fn g p q) = some (.fn g p q, H) := rfl
theorem frz_ptr1 {b : Nat} {H : Heap} {g o : Nat} : frz b 1 H (.ptr g o) = some (.ptr g o, H) := rfl
theorem frz_agg1 {b : Nat} {l : List AV} {H : Heap} : frz b 1 H (.agg l) = aggR (frzL (frz b 0) l H) := frz_agg
theorem frz_tup1 {b : Nat} {l : List AV} {H : Heap} : frz b 1 H (.tup l) = tupR (frzL (frz b 0) l H) := frz_tup

attribute [simp] noNew_int4 noNew_bool4 noNew_nils4 noNew_vec4 noNew_agg4 noNew_tup4 noNew_int3 noNew_bool3 noNew_nils3 noNew_vec3 noNew_agg3 noNew_tup3 noNew_int2 noNew_bool2 noNew_nils2 noNew_vec2 noNew_agg2 noNew_tup2 noNew_int1 noNew_bool1 noNew_nils1 noNew_vec1 noNew_agg1 noNew_tup1 frz_int6 frz_bool6 frz_nils6 frz_vec6 frz_fn6 frz_ptr6 frz_agg6 frz_tup6 frz_int5 frz_bool5 frz_nils5 frz_vec5 frz_fn5 frz_ptr5 frz_agg5 frz_tup5 frz_int4 frz_bool4 frz_nils4 frz_vec4 frz_fn4 frz_ptr4 frz_agg4 frz_tup4 frz_int3 frz_bool3 frz_nils3 frz_vec3 frz_fn3 frz_ptr3 frz_agg3 frz_tup3 frz_int2 frz_bool2 frz_nils2 frz_vec2 frz_fn2 frz_ptr2 frz_agg2 frz_tup2 frz_int1 frz_bool1 frz_nils1 frz_vec1 frz_fn1 frz_ptr1 frz_agg1 frz_tup1
attribute [simp] wrap_quiet read_eq rdO_cells rdO_frz partO_some loadA_ptr loadA_pv storeA_ptr stR_some heapA_store boxR_some heapA_box heapA_alloc put_nil put_cons flat_int flat_bool flat_agg flat_nils flat_vec flat_sl flat_fn
  noNew_int noNew_bool noNew_nils noNew_vec noNew_agg noNew_tup frz_int frz_bool frz_nils frz_vec frz_fn frz_ptr aggR_some tupR_some frz_agg frz_tup frzL_nil frzL_cons consR_some frzC_some resL_nil consO_some resL_cons resA_tmp resA_cell tupA_one tupA_two tupA_nil

theorem wrap_int {x : Int} (h1 : -9223372036854775808 ≤ x) (h2 : x < 9223372036854775808) : IntKind.i64.wrap x = x := by
  simp [IntKind.wrap, IntKind.signed, IntKind.bits]
  split <;> omega
theorem wrap_byte {x : Int} (h1 : 0 ≤ x) (h2 : x < 256) : IntKind.u8.wrap x = x := by
  simp only [IntKind.wrap, IntKind.signed, IntKind.bits, Bool.false_and, Bool.false_eq_true, if_false]
  omega
theorem wrap_begin {H : Heap} {v : AV} (hv : v.noNew H.next 4 = true) : wrapA H v H.begin = (v, H) := wrap_quiet rfl hv
attribute [simp] wrap_begin
theorem not_add_lt (m k : Nat) : (m + k < m) = False := by
  apply propext; constructor
  · intro h; omega
  · intro h; exact h.elim
attribute [simp] not_add_lt
end Go.Mach
