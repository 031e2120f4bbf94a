/-
  A deterministic machine over pure data beside the model: its values, its heap, its operations, its evaluator. No theorem stands here.
  Values: slices are either frozen ('vec', the contents in the value) or live ('sl', an object of the heap). By an AI agent.
-/
import Derived.Orders
import Derived.Below
namespace Go.Mach

/-- Values. -/
inductive AV where
  | int (k : IntKind) (n : Int)
  | bool (b : Bool)
  | str (s : ByteArray)
  | nilp
  | ptr (id off : Nat)
  | pv (cells : List AV) (off : Nat)
  | nils
  | sl (id off len lo : Nat) (ex : Bool) (e : Nat)
  | vec (len : Nat) (ex : Bool) (cells : List AV)
  | fn (f : Nat) (first caps : List AV)
  | nilf
  | mp (id : Nat)
  | nilm
  | agg (cells : List AV)
  | tup (vs : List AV)
  deriving Inhabited

/-- Objects of the heap: a row of cells (and the one live object that may share its block), a frozen row, a map. -/
inductive AObj where
  | dead
  | cells (cs : List AV) (rel : Option Nat)
  | frz (cs : List AV)
  | map (es : List (AV × AV))
  deriving Inhabited

structure Heap where
  obj : Nat → AObj
  next : Nat
  base : Nat
  ws : List Nat
  wc : Nat

def upd {α : Type} (f : Nat → α) (i : Nat) (a : α) : Nat → α := fun j => if j = i then a else f j

namespace AV
def isCell : AV → Bool
  | .agg _ | .tup _ => false
  | _ => true
def flat : AV → Option (List AV)
  | .agg cs => some cs
  | .tup _ => none
  | v => some [v]
/-- Bears no object of the heap (of a cell). -/
def pure : AV → Bool
  | .ptr .. | .sl .. | .mp _ | .agg _ | .tup _ => false
  | .fn _ first caps => first.isEmpty && caps.isEmpty
  | _ => true
/-- Bears no object from number b on. -/
def noNew (b : Nat) : Nat → AV → Bool
  | 0, _ => false
  | n + 1, v => match v with
    | .ptr id _ => decide (id < b)
    | .sl id _ _ _ _ _ => decide (id < b)
    | .mp id => decide (id < b)
    | .fn _ first caps => first.all (noNew b n) && caps.all (noNew b n)
    | .agg cs => cs.all (noNew b n)
    | .tup cs => cs.all (noNew b n)
    | _ => true
end AV

def AObj.noNew (b : Nat) : AObj → Bool
  | .dead => true
  | .cells cs _ => cs.all (AV.noNew b 4)
  | .frz _ => true
  | .map es => es.all fun e => AV.noNew b 4 e.1 && AV.noNew b 4 e.2
def AObj.clean (b : Nat) : AObj → AObj
  | .cells cs rel => .cells cs (match rel with | some j => if j < b then some j else none | none => none)
  | o => o

namespace Heap
def touch (H : Heap) (i : Nat) : Heap := { H with ws := if i < H.base then i :: H.ws else H.ws, wc := H.wc + 1 }
def set (H : Heap) (i : Nat) (o : AObj) : Heap := { H with obj := upd H.obj i o, ws := if i < H.base then i :: H.ws else H.ws, wc := H.wc + 1 }
def new (H : Heap) (o : AObj) : Heap := { H with obj := upd H.obj H.next o, next := H.next + 1 }
def kill (H : Heap) : Option Nat → Heap
  | none => H
  | some r => H.set r .dead
def read (H : Heap) (i : Nat) : Option (List AV) :=
  match H.obj i with
  | .cells cs _ => some cs
  | .frz cs => some cs
  | _ => none
end Heap

/-! ### Operations -/
inductive AOpd where
  | t (n : Nat)
  | c (v : AV)
  deriving Inhabited

inductive SK where
  | arr (n : Nat)
  | sli
  | str
  deriving Inhabited

inductive AOp where
  | mv (x : AOpd)
  | pick (c a b : AOpd)
  | box (x : AOpd)
  | alloc (zero : List AV)
  | build (zero : List AV) (parts : List (Nat × Nat × AOpd))
  | bslice (n e : Nat) (zero : List AV) (parts : List (Nat × Nat × AOpd))
  | load (agg : Bool) (n : Nat) (a : AOpd)
  | store (n : Nat) (a x : AOpd)
  | nchk (x : AOpd)
  | bin (op : BinOp) (x y : AOpd)
  | eqb (neg : Bool) (x y : AOpd)
  | eqa (neg : Bool) (n : Nat) (x y : AOpd)
  | eqn (kind : Nat) (neg : Bool) (x y : AOpd)
  | un (op : UnOp) (x : AOpd)
  | cvi (k : IntKind) (x : AOpd)
  | cvbs (x : AOpd)
  | mkf (f : Nat) (first caps : List AOpd)
  | mkm (hint : Option AOpd)
  | mks (e : Nat) (zero : List AV) (bytes : Nat) (len cap : AOpd)
  | slc (k : SK) (e : Nat) (x : AOpd) (lo hi mx : Option AOpd)
  | faddr (off : Nat) (x : AOpd)
  | fld (agg : Bool) (off n : Nat) (x : AOpd)
  | iaddr (arr : Option Nat) (e : Nat) (x i : AOpd)
  | idx (agg : Bool) (n e : Nat) (x i : AOpd)
  | idxs (x i : AOpd)
  | ext (x : AOpd) (i : Nat)
  | lkp (str : Bool) (zero : AV) (ok : Bool) (m k : AOpd)
  | mpu (str : Bool) (m k v : AOpd)
  | len (kind : Nat) (x : AOpd)
  | lenc (n : Nat)
  | cap (x : AOpd)
  | app (e bytes : Nat) (x y : AOpd)
  | cpy (e : Nat) (x y : AOpd)
  | clr (e : Nat) (zero : List AV) (x : AOpd)
  | minmax (mx : Bool) (xs : List AOpd)
  | call (f : AOpd) (args : List AOpd)
  deriving Inhabited

structure AOper where
  dst : Option Nat
  op : AOp
  guard : Option (Nat × Bool)
  solo : Bool
  deriving Inhabited

inductive ACode where
  | skip
  | ops (l : List AOper)
  | seq (a b : ACode)
  | cond (c : AOpd) (x y : ACode)
  | block (id : Nat) (body : ACode)
  | loop (body : ACode)
  | exit (id : Nat)
  | ret
  deriving Inhabited

inductive ARes where
  | tmp (t : Nat)
  | cell (a : Nat) (agg : Bool) (n : Nat)
  deriving Inhabited

structure AFn where
  body : ACode
  res : List ARes
  ntmps : Nat
  fzA : Bool
  fzR : Bool
  deriving Inhabited

abbrev Sig := Nat → AV
abbrev R := Option (AV × Heap)
abbrev CallFn := Nat → List AV → Heap → R

def undefA : AV := .tup []

def ev (σ : Sig) : AOpd → AV
  | .t n => σ n
  | .c v => v

def part (agg : Bool) (n : Nat) (cs : List AV) (off : Nat) : Option AV :=
  if agg then (if off + n ≤ cs.length then some (.agg ((cs.drop off).take n)) else none)
  else cs[off]?

/-- Overwrite cells from a place on. -/
def put (cs : List AV) (off : Nat) : List AV → List AV
  | [] => cs
  | x :: xs => put (cs.set off x) (off + 1) xs

def fillA (cells : List AV) : List (Nat × Nat × AV) → Option (List AV)
  | [] => some cells
  | (off, n, v) :: rest =>
    match v.flat with
    | none => none
    | some xs => if xs.length = n ∧ off + n ≤ cells.length then fillA (put cells off xs) rest else none

def loadA (H : Heap) (agg : Bool) (n : Nat) : AV → Option AV
  | .ptr id off => match H.read id with
    | some cs => part agg n cs off
    | none => none
  | .pv cs off => part agg n cs off
  | _ => none

def storeA (H : Heap) (n : Nat) (a x : AV) : Option Heap :=
  match a, x.flat with
  | .ptr id off, some xs => match H.obj id with
    | .cells cs rel => if xs.length = n ∧ off + n ≤ cs.length then some ((H.kill rel).set id (.cells (put cs off xs) none)) else none
    | _ => none
  | _, _ => none

def ibin (op : BinOp) (k : IntKind) (a b : Int) : Option AV :=
  match op with
  | .add => some (.int k (k.wrap (a + b)))
  | .sub => some (.int k (k.wrap (a - b)))
  | .mul => some (.int k (k.wrap (a * b)))
  | .quo => if b = 0 then none else some (.int k (k.wrap (a.tdiv b)))
  | .rem => if b = 0 then none else some (.int k (a.tmod b))
  | .and => some (.int k (k.wrap (BitVec.ofInt k.bits a &&& BitVec.ofInt k.bits b).toNat))
  | .or => some (.int k (k.wrap (BitVec.ofInt k.bits a ||| BitVec.ofInt k.bits b).toNat))
  | .xor => some (.int k (k.wrap (BitVec.ofInt k.bits a ^^^ BitVec.ofInt k.bits b).toNat))
  | .andNot => some (.int k (k.wrap (BitVec.ofInt k.bits a &&& ~~~ BitVec.ofInt k.bits b).toNat))
  | .eql => some (.bool (a == b))
  | .neq => some (.bool (a != b))
  | .lss => some (.bool (decide (a < b)))
  | .leq => some (.bool (decide (a ≤ b)))
  | .gtr => some (.bool (decide (a > b)))
  | .geq => some (.bool (decide (a ≥ b)))
  | .shl => if b < 0 then none else some (.int k (k.wrap (a * 2 ^ (min b.toNat k.bits))))
  | .shr => if b < 0 then none else some (.int k (a.fdiv (2 ^ (min b.toNat k.bits))))

def binA (op : BinOp) (x y : AV) : Option AV :=
  match x, y with
  | .int k a, .int k' b =>
    match op with
    | .shl | .shr => ibin op k a b
    | _ => if k = k' then ibin op k a b else none
  | .str a, .str b =>
    match op with
    | .eql => some (.bool (a.toList == b.toList))
    | .neq => some (.bool (!(a.toList == b.toList)))
    | .lss => some (.bool (Op.bytesLess a.toList b.toList))
    | .add => if a.size + b.size < 2 ^ 62 then some (.str (a ++ b)) else none
    | _ => none
  | _, _ => none

/-- Equality of rows of integers. -/
def eqRow : List AV → List AV → Option Bool
  | [], [] => some true
  | .int k a :: xs, .int k' b :: ys => if k = k' then (if a == b then eqRow xs ys else (if xs.length = ys.length then some false else none)) else none
  | _, _ => none

/-- Is a pointer (0), a slice (1), a map (2), a function (3) nil? -/
def eqNil : Nat → AV → Option Bool
  | 0, .nilp => some true
  | 0, .ptr .. | 0, .pv .. => some false
  | 1, .nils => some true
  | 1, .sl .. | 1, .vec .. => some false
  | 2, .nilm => some true
  | 2, .mp _ => some false
  | 3, .nilf => some true
  | 3, .fn .. => some false
  | _, _ => none

def unA (op : UnOp) (x : AV) : Option AV :=
  match op, x with
  | .not, .bool b => some (.bool (!b))
  | .neg, .int k n => ibin .sub k 0 n
  | .xor, .int k n => ibin .xor k (if k.signed then -1 else k.max) n
  | _, _ => none

def bytesOf : List AV → Option (List UInt8)
  | [] => some []
  | .int .u8 n :: r => match bytesOf r with
    | some l => some (UInt8.ofNat n.toNat :: l)
    | none => none
  | _ => none

/-- The elements of a slice: how many, and their cells. -/
def srcA (H : Heap) (e : Nat) : AV → Option (Nat × List AV)
  | .nils => some (0, [])
  | .vec n _ cs => if cs.length = n * e then some (n, cs) else none
  | .sl id off n _ _ _ => match H.read id with
    | some cs => if off + n * e ≤ cs.length then some (n, (cs.drop off).take (n * e)) else none
    | none => none
  | _ => none

def appA (H : Heap) (e bytes : Nat) (x y : AV) : R :=
  match srcA H e y with
  | none => none
  | some (n, new) =>
    if n = 0 then (match x with
      | .nils | .vec .. => some (x, H)
      | .sl _ _ len lo _ _ => if len ≤ lo then some (x, H) else none
      | _ => none) else
    match x with
    | .nils => if n * bytes ≤ 2 ^ 45 then some (.sl H.next 0 n n false e, H.new (.cells new none)) else none
    | .vec len true cs => if (len + n) * bytes ≤ 2 ^ 45 ∧ cs.length = len * e then some (.sl H.next 0 (len + n) (len + n) false e, H.new (.cells (cs ++ new) none)) else none
    | .sl id off len lo ex e' =>
      if e' ≠ e then none else
      match H.obj id with
      | .cells cs rel =>
        if len + n ≤ lo then
          if off + (len + n) * e ≤ cs.length then some (.sl id off (len + n) lo ex e, (H.kill rel).set id (.cells (put cs (off + len * e) new) none)) else none
        else if (len + n) * bytes ≤ 2 ^ 45 then
          if ex then
            if off + len * e ≤ cs.length then some (.sl H.next 0 (len + n) (len + n) false e, H.new (.cells ((cs.drop off).take (len * e) ++ new) none)) else none
          else if off = 0 ∧ len * e = cs.length then
            some (.sl H.next 0 (len + n) (len + n) false e, ((H.kill rel).set id (.cells cs (some H.next))).new (.cells (cs ++ new) (some id)))
          else none
        else none
      | .frz cs =>
        if ex = true ∧ lo < len + n ∧ (len + n) * bytes ≤ 2 ^ 45 ∧ off + len * e ≤ cs.length then some (.sl H.next 0 (len + n) (len + n) false e, H.new (.cells ((cs.drop off).take (len * e) ++ new) none)) else none
      | _ => none
    | _ => none

def bnd (v : Option AV) (d : Nat) (top : Nat) : Option Nat :=
  match v with
  | none => some d
  | some (.int _ i) => if 0 ≤ i ∧ i ≤ top then some i.toNat else none
  | some _ => none

/-- The three bounds of a slicing; L: what is known of the capacity. -/
def bnds (len L : Nat) (lo hi mx : Option AV) : Option (Nat × Nat × Option Nat) :=
  match mx with
  | none => match (match hi with
      | none => some len
      | some _ => bnd hi len L) with
    | none => none
    | some h => match bnd lo 0 h with
      | none => none
      | some l => some (l, h, none)
  | some _ => match hi with
    | none => none
    | some _ => match bnd mx 0 L with
      | none => none
      | some m => match bnd hi 0 m with
        | none => none
        | some h => match bnd lo 0 h with
          | none => none
          | some l => some (l, h, some m)

def slcA (H : Heap) (k : SK) (e : Nat) (x : AV) (lo hi mx : Option AV) : Option AV :=
  match k, x with
  | .arr n, .ptr id off => match H.read id, bnds n n lo hi mx with
    | some cs, some (l, h, mo) => if off + n * e ≤ cs.length then
        (if mo.getD n = l ∧ l ≠ 0 then some (.vec 0 true []) else some (.sl id (off + l * e) (h - l) (mo.getD n - l) true e)) else none
    | _, _ => none
  | .sli, .nils => match bnds 0 0 lo hi mx with
    | some _ => some .nils
    | none => none
  | .sli, .vec len ex cs => match bnds len len lo hi mx with
    | some (l, h, none) => if cs.length = len * e then some (.vec (h - l) (ex && h == len) ((cs.drop (l * e)).take ((h - l) * e))) else none
    | some (l, h, some m) => if cs.length = len * e then some (.vec (h - l) (m == h) ((cs.drop (l * e)).take ((h - l) * e))) else none
    | none => none
  | .sli, .sl id off len lo' ex e' =>
    if e' = e then (match bnds len lo' lo hi mx with
      | some (l, h, none) => if h ≤ lo' then (if lo' = l ∧ l ≠ 0 then some (.vec 0 ex []) else some (.sl id (off + l * e) (h - l) (lo' - l) ex e)) else none
      | some (l, h, some m) => if m = l ∧ l ≠ 0 then some (.vec 0 true []) else some (.sl id (off + l * e) (h - l) (m - l) true e)
      | none => none) else none
  | .str, .str s => match bnds s.size s.size lo hi none with
    | some (l, h, _) => some (.str (s.extract l h))
    | none => none
  | _, _ => none

def iaddrA (arr : Option Nat) (e : Nat) (x i : AV) : Option AV :=
  match i with
  | .int _ i => match arr, x with
    | some n, .ptr id off => if 0 ≤ i ∧ i < n then some (.ptr id (off + i.toNat * e)) else none
    | some n, .pv cs off => if 0 ≤ i ∧ i < n then some (.pv cs (off + i.toNat * e)) else none
    | none, .sl id off len _ _ _ => if 0 ≤ i ∧ i < len then some (.ptr id (off + i.toNat * e)) else none
    | none, .vec len _ cs => if 0 ≤ i ∧ i < len ∧ cs ≠ [] then some (.pv cs (i.toNat * e)) else none
    | _, _ => none
  | _ => none

def keyEq : AV → AV → Option Bool
  | .int k a, .int k' b => if k = k' then some (a == b) else none
  | .str a, .str b => some (a == b)
  | _, _ => none

def findA (k : AV) : List (AV × AV) → Option (Option AV)
  | [] => some none
  | (a, v) :: r => match keyEq k a with
    | some true => some (some v)
    | some false => findA k r
    | none => none

def putA (k v : AV) : List (AV × AV) → Option (List (AV × AV))
  | [] => some [(k, v)]
  | (a, x) :: r => match keyEq k a with
    | some true => some ((k, v) :: r)
    | some false => match putA k v r with
      | some r' => some ((a, x) :: r')
      | none => none
    | none => none

def isKey (str : Bool) : AV → Bool
  | .int .. => !str
  | .str _ => str
  | _ => false

def mm2 (mx : Bool) : AV → AV → Option AV
  | .int k x, .int k' y => if k = k' then some (.int k (if mx then (if y > x then y else x) else (if y < x then y else x))) else none
  | _, _ => none

def mmA (mx : Bool) : AV → List AV → Option AV
  | x, [] => some x
  | x, y :: r => match mm2 mx x y with
    | some z => mmA mx z r
    | none => none

/-- A value of an operation that leaves the heap alone. -/
def pureA (f : AOpd → AV) (H : Heap) : AOp → Option AV
  | .mv x => some (f x)
  | .pick c a b => match f c with
    | .bool t => some (if t then f a else f b)
    | _ => none
  | .build zero parts => match fillA zero (parts.map fun p => (p.1, p.2.1, f p.2.2)) with
    | some cs => some (.agg cs)
    | none => none
  | .load agg n a => loadA H agg n (f a)
  | .nchk x => match f x with
    | .ptr a b => some (.ptr a b)
    | .pv a b => some (.pv a b)
    | .fn a b c => some (.fn a b c)
    | _ => none
  | .bin op x y => binA op (f x) (f y)
  | .eqb neg x y => match f x, f y with
    | .bool a, .bool b => some (.bool ((a == b) != neg))
    | _, _ => none
  | .eqa neg n x y => match f x, f y with
    | .agg xs, .agg ys => if xs.length = n then (match eqRow xs ys with
      | some b => some (.bool (b != neg))
      | none => none) else none
    | _, _ => none
  | .eqn kind neg x y => match eqNil kind (f x), eqNil kind (f y) with
    | some a, some b => if a || b then some (.bool ((a && b) != neg)) else none
    | _, _ => none
  | .un op x => unA op (f x)
  | .cvi k x => match f x with
    | .int _ n => some (.int k (k.wrap n))
    | _ => none
  | .cvbs x => match srcA H 1 (f x) with
    | some (_, cs) => match bytesOf cs with
      | some l => some (.str ⟨l.toArray⟩)
      | none => none
    | none => none
  | .mkf g first caps => some (.fn g (first.map f) (caps.map f))
  | .slc k e x lo hi mx => slcA H k e (f x) (lo.map f) (hi.map f) (mx.map f)
  | .faddr off x => match f x with
    | .ptr id o => some (.ptr id (o + off))
    | .pv cs o => some (.pv cs (o + off))
    | _ => none
  | .fld agg off n x => match f x with
    | .agg cs => part agg n cs off
    | _ => none
  | .iaddr arr e x i => iaddrA arr e (f x) (f i)
  | .idx agg n e x i => match f x, f i with
    | .agg cs, .int _ i => if 0 ≤ i ∧ i < n then part agg e cs (i.toNat * e) else none
    | _, _ => none
  | .idxs x i => match f x, f i with
    | .str s, .int _ i => if 0 ≤ i then (match s[i.toNat]? with
      | some b => some (.int .u8 b.toNat)
      | none => none) else none
    | _, _ => none
  | .ext x i => match f x with
    | .tup vs => vs[i]?
    | _ => none
  | .lkp str zero ok m k => if isKey str (f k) then match f m with
    | .nilm => some (if ok then .tup [zero, .bool false] else zero)
    | .mp id => match H.obj id with
      | .map es => match findA (f k) es with
        | some (some v) => some (if ok then .tup [v, .bool true] else v)
        | some none => some (if ok then .tup [zero, .bool false] else zero)
        | none => none
      | _ => none
    | _ => none else none
  | .len kind x => match kind, f x with
    | 1, .nils => some (.int .i64 0)
    | 1, .sl _ _ n _ _ _ => some (.int .i64 n)
    | 1, .vec n _ _ => some (.int .i64 n)
    | 0, .str s => some (.int .i64 s.size)
    | 2, .nilm => some (.int .i64 0)
    | 2, .mp id => match H.obj id with
      | .map es => some (.int .i64 es.length)
      | _ => none
    | _, _ => none
  | .lenc n => some (.int .i64 n)
  | .cap x => match f x with
    | .nils => some (.int .i64 0)
    | .sl _ _ _ lo true _ => some (.int .i64 lo)
    | .vec n true _ => some (.int .i64 n)
    | _ => none
  | .minmax mx xs => match xs.map f with
    | [] => none
    | x :: r => if x matches .int .. then mmA mx x r else none
  | _ => none

/-- An operation that makes or writes memory. -/
def heapA (f : AOpd → AV) (H : Heap) : AOp → R
  | .box x => match (f x).flat with
    | some cs => some (.ptr H.next 0, H.new (.cells cs none))
    | none => none
  | .alloc zero => some (.ptr H.next 0, H.new (.cells zero none))
  | .bslice n e zero parts => match fillA zero (parts.map fun p => (p.1, p.2.1, f p.2.2)) with
    | some cs => if cs.all AV.pure then some (.vec n true cs, H) else if n * e ≤ cs.length then some (.sl H.next 0 n n true e, H.new (.cells cs none)) else none
    | none => none
  | .store n a x => match storeA H n (f a) (f x) with
    | some H' => some (undefA, H')
    | none => none
  | .mkm hint => match hint with
    | none => some (.mp H.next, H.new (.map []))
    | some x => match f x with
      | .int _ _ => some (.mp H.next, H.new (.map []))
      | _ => none
  | .mks e zero bytes len cap => match f len, f cap with
    | .int _ l, .int _ c => if 0 ≤ l ∧ l ≤ c ∧ c * bytes ≤ 2 ^ 45 ∧ c ≤ 2 ^ 45 then
        some (.sl H.next 0 l.toNat c.toNat true e, H.new (.cells ((List.replicate c.toNat zero).flatten) none)) else none
    | _, _ => none
  | .mpu str m k v => match f m with
    | .mp id => match H.obj id with
      | .map es => if isKey str (f k) then match putA (f k) (f v) es with
        | some es' => some (undefA, H.set id (.map es'))
        | none => none else none
      | _ => none
    | _ => none
  | .app e bytes x y => appA H e bytes (f x) (f y)
  | .cpy e x y => match srcA H e (f y), f x with
    | some (n, cs), .sl id off len _ _ e' => if e' = e then (match H.obj id with
      | .cells ds rel => if off + (min n len) * e ≤ ds.length then some (.int .i64 (min n len : Nat), (H.kill rel).set id (.cells (put ds off (cs.take ((min n len) * e))) none)) else none
      | _ => none) else none
    | some _, .nils => some (.int .i64 0, H)
    | some _, .vec 0 _ _ => some (.int .i64 0, H)
    | _, _ => none
  | .clr e zero x => match f x with
    | .nils => some (undefA, H)
    | .vec 0 _ _ => some (undefA, H)
    | .sl id off n _ _ e' => if e' = e then (if n = 0 then some (undefA, H) else match H.obj id with
      | .cells ds rel => if off + n * e ≤ ds.length ∧ zero.length = e then some (undefA, (H.kill rel).set id (.cells (put ds off (List.replicate n zero).flatten) none)) else none
      | _ => none) else none
    | _ => none
  | _ => none

def isPure : AOp → Bool
  | .mv _ | .pick .. | .build .. | .load .. | .nchk _ | .bin .. | .eqb .. | .eqa .. | .eqn .. | .un .. | .cvi .. | .cvbs _ | .mkf .. | .slc .. | .faddr .. | .fld .. | .iaddr .. | .idx ..
  | .idxs .. | .ext .. | .lkp .. | .len .. | .lenc _ | .cap _ | .minmax .. => true
  | _ => false

def putS (σ : Sig) (d : Option Nat) (v : AV) : Sig :=
  match d with
  | some d => upd σ d v
  | none => σ

def wantedA (σ : Sig) : Option (Nat × Bool) → Bool
  | none => true
  | some (t, want) => match σ t with
    | .bool b => b == want
    | _ => false

/-- One operation. -/
def stepA (call : CallFn) (f : AOpd → AV) (H : Heap) (op : AOp) : R :=
  match op with
  | .call g args => match f g with
    | .fn n first caps => call n (first ++ args.map f ++ caps) H
    | _ => none
  | op => if isPure op then (match pureA f H op with
    | some v => some (v, H)
    | none => none) else heapA f H op

def evalOps (call : CallFn) : List AOper → (Sig → Heap → R) → Sig → Heap → R
  | [], k, σ, H => k σ H
  | o :: os, k, σ, H =>
    if wantedA σ o.guard then
      match stepA call (ev σ) H o.op with
      | some (v, H') => if o.solo || H'.wc == H.wc then evalOps call os k (putS σ o.dst v) H' else none
      | none => none
    else evalOps call os k (putS σ o.dst undefA) H

inductive Ex where
  | nrm
  | exit (id : Nat)
  | ret

abbrev KF := Ex → Sig → Heap → R

def loopK (body : KF → Sig → Heap → R) : Nat → KF → Sig → Heap → R
  | 0, _, _, _ => none
  | n + 1, k, σ, H => body (fun e σ H => match e with
    | .nrm => loopK body n k σ H
    | e => k e σ H) σ H

def evalK (call : CallFn) (n : Nat) : ACode → KF → Sig → Heap → R
  | .skip, k, σ, H => k .nrm σ H
  | .ops l, k, σ, H => evalOps call l (k .nrm) σ H
  | .seq a b, k, σ, H => evalK call n a (fun e σ H => match e with
    | .nrm => evalK call n b k σ H
    | e => k e σ H) σ H
  | .cond c x y, k, σ, H => match ev σ c with
    | .bool t => if t then evalK call n x k σ H else evalK call n y k σ H
    | _ => none
  | .block id c, k, σ, H => evalK call n c (fun e σ H => match e with
    | .exit i => if i = id then k .nrm σ H else k (.exit i) σ H
    | e => k e σ H) σ H
  | .loop c, k, σ, H => loopK (evalK call n c) n k σ H
  | .exit id, k, σ, H => k (.exit id) σ H
  | .ret, k, σ, H => k .ret σ H

/-! ### Freezing -/
def frzL (fz : Heap → AV → R) : List AV → Heap → Option (List AV × Heap)
  | [], H => some ([], H)
  | v :: r, H => match fz H v with
    | none => none
    | some (v', H1) => match frzL fz r H1 with
      | none => none
      | some (r', H2) => some (v' :: r', H2)

/-- Freeze the live rows from number b on that a value bears. -/
def frz (b : Nat) : Nat → Heap → AV → R
  | 0, _, _ => none
  | n + 1, H, v => match v with
    | .sl id off len lo ex e =>
      if id < b then some (v, H) else
      match H.obj id with
      | .cells cs rel =>
        if cs.all AV.pure then
          if off + len * e ≤ cs.length ∧ len ≤ lo then some (.vec len (ex && lo == len) ((cs.drop off).take (len * e)), (H.kill rel).set id (.frz cs)) else none
        else match frzL (frz b n) cs H with
        | none => none
        | some (cs', H1) =>
          if cs'.all AV.pure && cs'.all AV.isCell then match H1.obj id with
            | .cells _ rel1 => if cs'.length = cs.length ∧ off + len * e ≤ cs.length ∧ len ≤ lo then some (.vec len (ex && lo == len) ((cs'.drop off).take (len * e)), (H1.kill rel1).set id (.frz cs')) else none
            | _ => none
          else none
      | .frz cs => if off + len * e ≤ cs.length ∧ len ≤ lo then some (.vec len (ex && lo == len) ((cs.drop off).take (len * e)), H) else none
      | _ => none
    | .agg cs => match frzL (frz b n) cs H with
      | some (cs', H1) => some (.agg cs', H1)
      | none => none
    | .tup cs => match frzL (frz b n) cs H with
      | some (cs', H1) => some (.tup cs', H1)
      | none => none
    | v => some (v, H)

def resA (σ : Sig) (H : Heap) : ARes → Option AV
  | .tmp t => some (σ t)
  | .cell a agg n => loadA H agg n (σ a)

def resL (σ : Sig) (H : Heap) : List ARes → Option (List AV)
  | [] => some []
  | r :: rs => match resA σ H r with
    | none => none
    | some v => match resL σ H rs with
      | none => none
      | some vs => some (v :: vs)

def tupA : List AV → AV
  | [v] => v
  | vs => .tup vs

/-- The memory behind a call that returns a list: what it was made of, the call's own, is forgotten. -/
def unrelO (b : Nat) (v : AV) (obj : Nat → AObj) : Nat → AObj :=
  match v with
  | .sl id _ _ _ _ _ => match obj id with
    | .cells cs (some r) => if b ≤ id ∧ b ≤ r then upd (upd obj r .dead) id (.cells cs none) else obj
    | _ => obj
  | _ => obj

/-- The caller's heap behind a call: a call that wrote nothing of the caller's leaves it as it was. -/
def wrapA (H1 : Heap) (v : AV) (H3 : Heap) : AV × Heap :=
  match H3.ws with
  | [] => if v.noNew H1.next 4 then (v, H1) else (v, { H3 with obj := unrelO H1.next v H3.obj, base := H1.base, ws := H1.ws, wc := H1.wc })
  | ws =>
    if v.noNew H1.next 4 && ws.all (fun i => (H3.obj i).noNew H1.next) then
      (v, { H1 with obj := ws.foldr (fun i o => upd o i ((H3.obj i).clean H1.next)) H1.obj, ws := ws.filter (fun i => i < H1.base) ++ H1.ws, wc := H1.wc + 1 })
    else (v, { H3 with obj := unrelO H1.next v H3.obj, base := H1.base, ws := ws.filter (fun i => i < H1.base) ++ H1.ws, wc := H1.wc + 1 })

def finA (fd : AFn) (H1 : Heap) (σ : Sig) (H2 : Heap) : R :=
  match resL σ H2 fd.res with
  | none => none
  | some vs => match (if fd.fzR then frz H1.next 6 H2 (tupA vs) else some (tupA vs, H2)) with
    | none => none
    | some (v, H3) => some (wrapA H1 v H3)

def sigOf (args : List AV) : Sig := fun t => args.getD t undefA

/-- A list that a call is given forgets what it was made of (for the calls marked so). -/
def relax (H : Heap) (v : AV) : Heap :=
  match v with
  | .sl id _ _ _ _ _ => match H.obj id with
    | .cells cs (some r) => if H.base ≤ id ∧ H.base ≤ r then (H.set r .dead).set id (.cells cs none) else H
    | _ => H
  | _ => H
def relaxL (b : Bool) (args : List AV) (H : Heap) : Heap := if b then args.foldl relax H else H

def evalCall (T : Nat → Option AFn) : Nat → CallFn
  | 0, _, _, _ => none
  | n + 1, f, args, H => match T f with
    | none => none
    | some fd => if args.length ≤ fd.ntmps then (match (if fd.fzA then frzL (frz H.base 6) args H else some (args, relaxL fd.fzR args H)) with
      | none => none
      | some (args, H1) =>
        evalK (evalCall T n) n fd.body (fun e σ H2 => match e with
          | .exit _ => none
          | _ => finA fd H1 σ H2) (sigOf args) { H1 with base := H1.next, ws := [] }) else none

end Go.Mach
