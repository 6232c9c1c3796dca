/- A small deterministic language 'X' (abstract values, abstract memory) into which functions of the program are compiled; this text has its values, its operations and its runs. Regions whose order Go leaves open: run in the text's order, with a look that any other order comes to the same. The terms. How abstract values and abstract memory stand for a world's; the moves of memory. How operations of the program's form are compiled into X. Each operation of X does what the program's operation does (those that read, reckon or make memory). Each operation of X that has no call does what the program's operation does. Each operation of X that has no call does what the program's operation does: numbers, strings, rows. Each operation of X that has no call does what the program's operation does: parts, slices, stores. Each operation of X that has no call does what the program's operation does: what is built, cut, appended. -/
import GoSem.Dispatch
import Derived.Calls
import Derived.Deep.AppendSrc
import Derived.Laws.Rows
import Derived.Laws.Bits
import Derived.Laws.Strings
import Derived.Laws.StructEq
namespace Go.X
open Go

inductive XV where
  | bool (b : Bool)
  | int (k : IntKind) (n : Int)
  | str (s : List UInt8)
  | ptr (b off : Nat)
  | vp (cells : List XV)
  | nilp
  | sl (b off len esz : Nat)
  | vs (len : Nat) (cells : List XV)
  | nils
  | fn (f : Fn) (first captured : List XV)
  | nilf
  | iface (t : TypeId) (v : XV)
  | nili
  | agg (cs : List XV)
  | tup (cs : List XV)
  | mp (b : Nat)
  | bad
  deriving Inhabited

def und : XV := .tup []

inductive XB where
  | cells (cs : List XV)
  | tcells (cs : List XV) (ty : Nat) (full : Bool)
  | dead
  | siter (s : List UInt8) (pos : Nat)
  | mapc (es : List (XV × XV))
  deriving Inhabited

abbrev Heap := List XB

inductive XO where
  | t (n : Nat)
  | c (v : XV)
  | g (n : Nat)
  deriving Inhabited

/-- How '==' is read off a type. -/
inductive FK where
  | b | i | s
  deriving Inhabited, DecidableEq

inductive EqK where
  | bool | nilS | nilP | nilF | nilI | flat (ks : List FK)
  deriving Inhabited, DecidableEq

inductive XOp where
  | mv (x : XO)
  | pick (c a b : XO)
  | box (ty : Nat) (x : XO)
  | alloc (ty : Nat) (zero : List XV)
  | build (zero : List XV) (parts : List (Nat × Nat × XO))
  | bslice (esz len : Nat) (zero : List XV) (parts : List (Nat × Nat × XO))
  | load (sz : Nat) (agg : Bool) (x : XO)
  | store (sz : Nat) (x y : XO)
  | nilc (x : XO)
  | bin (op : BinOp) (x y : XO)
  | eq (neg : Bool) (k : EqK) (x y : XO)
  | eqP (neg : Bool) (x y : XO)
  | un (op : UnOp) (x : XO)
  | convI (k : IntKind) (x : XO)
  | convS (x : XO)            -- a string as a string
  | convB (x : XO)            -- bytes as a string
  | convBs (x : XO)           -- a string as bytes
  | mkif (t : TypeId) (x : XO)
  | mkfn (f : Fn) (first captured : List XO)
  | slice (st : Bool) (esz : Nat) (x : XO) (lo hi : Option XO)
  | sliceA (len esz : Nat) (x : XO) (lo hi : Option XO)
  | faddr (off : Nat) (x : XO)
  | field (off sz : Nat) (agg : Bool) (x : XO)
  | iaddr (esz : Nat) (x i : XO)
  | iaddrA (len esz : Nat) (x i : XO)
  | idxS (x i : XO)
  | idxA (len esz : Nat) (agg : Bool) (x i : XO)
  | extract (x : XO) (i : Nat)
  | len (st : Bool) (x : XO)
  | lenC (n : Nat)
  | append (st : Bool) (esz bytes ty : Nat) (x y : XO)
  | toU (x : XO)
  | fromU (l : List (Nat × Nat)) (x : XO)
  | sdata (x : XO)
  | ustr (e : Nat) (x n : XO)
  | max (xs : List XO)
  | min (xs : List XO)
  | makeS (esz bytes : Nat) (zero : List XV) (l c : XO)
  | range (x : XO)
  | next (x : XO)
  | makeM
  | insert (m k v : XO)
  | lookup (zero : XV) (ok : Bool) (m k : XO)
  | tassert (t : TypeId) (zero : XV) (ok : Bool) (x : XO)
  | panic (x : XO)
  | call (f : XO) (args : List XO)
  | defer (f : XO) (args : List XO)
  deriving Inhabited

structure XOper where
  dst : Option Nat
  op : XOp
  guard : Option (Nat × Bool)
  deriving Inhabited

inductive XC where
  | skip
  | seq (a b : XC)
  | cond (c : XO) (a b : XC)
  | block (id : Nat) (b : XC)
  | loop (b : XC)
  | exit (id : Nat)
  | ret
  | stuck
  | region (ops : List XOper)
  | regionD (ops : List XOper) (cl : List Nat)
  deriving Inhabited

/-- A result: a temporary, or what lies at one. -/
inductive XRes where
  | t (n : Nat)
  | c (n sz : Nat) (agg : Bool)
  deriving Inhabited

structure XF where
  ntmps : Nat
  res : List XRes
  body : XC
  deriving Inhabited

/-! ### plain helpers -/

def cellsOf : XV → List XV
  | .agg cs => cs
  | v => [v]

def takeAt (cs : List XV) (off n : Nat) : Option (List XV) :=
  if off + n ≤ cs.length then some ((cs.drop off).take n) else none

def putAt (cs : List XV) (off : Nat) (vs : List XV) : List XV := cs.take off ++ vs ++ cs.drop (off + vs.length)

def setH (H : Heap) (b : Nat) (x : XB) : Heap := H.set b x

/-- The cells at a block. -/
def cellsAt (H : Heap) (b : Nat) : Option (List XV) :=
  match H[b]? with
  | some (.cells cs) => some cs
  | some (.tcells cs _ _) => some cs
  | _ => none

/-- The same kind of row with other cells. -/
def setCs (H : Heap) (b : Nat) (cs : List XV) : XB :=
  match H[b]? with
  | some (.tcells _ ty f) => .tcells cs ty f
  | _ => .cells cs

/-- A row that grew out of another. -/
def retag (H : Heap) (b ty : Nat) (cs : List XV) : XB :=
  match H[b]? with
  | some (.tcells _ ty' _) => if ty' = ty then .tcells cs ty false else .cells cs
  | _ => .cells cs

def putParts (cells : List XV) : List (Nat × Nat × XV) → Option (List XV)
  | [] => some cells
  | (off, size, v) :: rest =>
    if (cellsOf v).length = size ∧ off + size ≤ cells.length then putParts (putAt cells off (cellsOf v)) rest else none

def repCells (zero : List XV) : Nat → List XV
  | 0 => []
  | n + 1 => zero ++ repCells zero n

def one (cs : List XV) (agg : Bool) : Option XV :=
  if agg then some (.agg cs) else match cs with
    | [v] => some v
    | _ => none

def oneCell : XV → Bool
  | .agg _ => false
  | .tup _ => false
  | .bad => false
  | _ => true

/-! ### operations without memory -/

def intBin (op : BinOp) (k : IntKind) (a b : Int) : Option XV :=
  match op with
  | .add => some (.int k (k.wrap (a + b)))
  | .sub => some (.int k (k.wrap (a - b)))
  | .mul => some (.int k (k.wrap (a * b)))
  | .quo => if b = 0 then none else some (.int k (k.wrap (a.tdiv b)))
  | .rem => if b = 0 then none else some (.int k (a.tmod b))
  | .and => some (.int k (k.wrap (BitVec.ofInt k.bits a &&& BitVec.ofInt k.bits b).toNat))
  | .or => some (.int k (k.wrap (BitVec.ofInt k.bits a ||| BitVec.ofInt k.bits b).toNat))
  | .xor => some (.int k (k.wrap (BitVec.ofInt k.bits a ^^^ BitVec.ofInt k.bits b).toNat))
  | .andNot => some (.int k (k.wrap (BitVec.ofInt k.bits a &&& ~~~ BitVec.ofInt k.bits b).toNat))
  | .eql => some (.bool (a == b))
  | .neq => some (.bool (a != b))
  | .lss => some (.bool (decide (a < b)))
  | .leq => some (.bool (decide (a ≤ b)))
  | .gtr => some (.bool (decide (a > b)))
  | .geq => some (.bool (decide (a ≥ b)))
  | _ => none

def shiftBin (op : BinOp) (k : IntKind) (a b : Int) : Option XV :=
  if b < 0 then none else
  match op with
  | .shl => some (.int k (k.wrap (a * 2 ^ (min b.toNat k.bits))))
  | .shr => some (.int k (a.fdiv (2 ^ (min b.toNat k.bits))))
  | _ => none

def strBin (op : BinOp) (a b : List UInt8) : Option XV :=
  match op with
  | .add => if ((a.length + b.length : Nat) : Int) > IntKind.i64.max then none else some (.str (a ++ b))
  | .eql => some (.bool (a == b))
  | .neq => some (.bool (!(a == b)))
  | .lss => some (.bool (Op.bytesLess a b))
  | .leq => some (.bool (Op.bytesLess a b || a == b))
  | .gtr => some (.bool (!(Op.bytesLess a b || a == b)))
  | .geq => some (.bool (!(Op.bytesLess a b)))
  | _ => none

def isShift : BinOp → Bool
  | .shl => true
  | .shr => true
  | _ => false

def bin (op : BinOp) (x y : XV) : Option XV :=
  match x, y with
  | .int k a, .int k' b => if isShift op then shiftBin op k a b else if k = k' then intBin op k a b else none
  | .str a, .str b => strBin op a b
  | _, _ => none

def isNil : EqK → XV → Option Bool
  | .nilS, .nils => some true
  | .nilS, .sl _ _ _ _ => some false
  | .nilS, .vs _ _ => some false
  | .nilP, .nilp => some true
  | .nilP, .ptr _ _ => some false
  | .nilP, .vp _ => some false
  | .nilF, .nilf => some true
  | .nilF, .fn _ _ _ => some false
  | .nilI, .nili => some true
  | .nilI, .iface _ _ => some false
  | _, _ => none

def nilEq (k : EqK) (x y : XV) : Option Bool :=
  match isNil k x, isNil k y with
  | some true, some b => some b
  | some false, some true => some false
  | _, _ => none

def flatEq : List FK → List XV → List XV → Option Bool
  | [], [], [] => some true
  | .i :: ks, .int k a :: xs, .int k' b :: ys => if k = k' then (if a = b then flatEq ks xs ys else some false) else none
  | .b :: ks, .bool a :: xs, .bool b :: ys => if a = b then flatEq ks xs ys else some false
  | .s :: ks, .str a :: xs, .str b :: ys => if a = b then flatEq ks xs ys else some false
  | _, _, _ => none

def xeq (k : EqK) (x y : XV) : Option Bool :=
  match k, x, y with
  | .bool, .bool a, .bool b => some (a == b)
  | .flat ks, .agg xs, .agg ys => flatEq ks xs ys
  | k, x, y => nilEq k x y

def un (op : UnOp) (x : XV) : Option XV :=
  match op, x with
  | .neg, .int k n => some (.int k (k.wrap (0 - n)))
  | .xor, .int k n => some (.int k (k.wrap (BitVec.ofInt k.bits (if k.signed then -1 else k.max) ^^^ BitVec.ofInt k.bits n).toNat))
  | .not, .bool b => some (.bool (!b))
  | _, _ => none

def asNat : XV → Option Nat
  | .int _ n => if 0 ≤ n then some n.toNat else none
  | _ => none

def bound (o : Option XV) (d : Nat) : Option Nat :=
  match o with
  | none => some d
  | some v => asNat v

def bytesOf : List XV → Option (List UInt8)
  | [] => some []
  | .int .u8 n :: r => (bytesOf r).map (UInt8.ofNat n.toNat :: ·)
  | _ => none

def cellsOfStr (s : List UInt8) : List XV := s.map fun b => .int .u8 (b.toNat : Int)

def max2 : XV → XV → Option XV
  | .int k x, .int k' y => if k = k' then some (.int k (if x < y then y else x)) else none
  | _, _ => none
def min2 : XV → XV → Option XV
  | .int k x, .int k' y => if k = k' then some (.int k (if y < x then y else x)) else none
  | _, _ => none
def fold2 (f : XV → XV → Option XV) : XV → List XV → Option XV
  | x, [] => some x
  | x, y :: r => (f x y).bind fun z => fold2 f z r

def lenOf : Bool → XV → Option Nat
  | true, .str s => some s.length
  | false, .sl _ _ n _ => some n
  | false, .vs n _ => some n
  | false, .nils => some 0
  | _, _ => none

def keyEq : XV → XV → Option Bool
  | .int k a, .int k' b => if k = k' then some (a == b) else none
  | .str a, .str b => some (a == b)
  | .bool a, .bool b => some (a == b)
  | _, _ => none

def findKey (k : XV) : List (XV × XV) → Option (Option XV)
  | [] => some none
  | (a, v) :: r => match keyEq k a with
    | some true => some (some v)
    | some false => findKey k r
    | none => none

/-- What is appended. -/
def newOf (H : Heap) (st : Bool) (esz : Nat) (y : XV) : Option (List XV × Nat) :=
  match st, y with
  | false, .nils => some ([], 0)
  | true, .str s => if esz = 1 then some (cellsOfStr s, s.length) else none
  | false, .vs n cs => if cs.length = n * esz then some (cs, n) else none
  | false, .sl b off n _ => match cellsAt H b with
    | some cs => (takeAt cs off (n * esz)).map (·, n)
    | none => none
  | _, _ => none

/-! ### values without memory of their own -/

mutual
/-- No memory at all. -/
def flat : XV → Bool
  | .bool _ | .int _ _ | .str _ | .nilp | .nils | .nilf | .nili => true
  | .fn _ a b => flatL a && flatL b
  | .iface _ v => flat v
  | .agg cs => flatL cs
  | .tup cs => flatL cs
  | _ => false
def flatL : List XV → Bool
  | [] => true
  | v :: r => flat v && flatL r
end

mutual
/-- A value with what it leads to, laid open (up to a depth); the blocks that it led to. -/
def frz : Nat → Heap → XV → Option (XV × List Nat)
  | 0, _, _ => none
  | d + 1, H, .ptr b off => match cellsAt H b with
    | some cs => if off ≤ cs.length then (frzL d H (cs.drop off)).map fun (r, vis) => (.vp r, b :: vis) else none
    | none => none
  | d + 1, H, .sl b off len esz => match cellsAt H b with
    | some cs => if off + len * esz ≤ cs.length then (frzL d H ((cs.drop off).take (len * esz))).map fun (r, vis) => (.vs len r, b :: vis) else none
    | none => none
  | d + 1, H, .fn f a b => (frzL d H a).bind fun (a', v1) => (frzL d H b).map fun (b', v2) => (.fn f a' b', v1 ++ v2)
  | d + 1, H, .iface t v => (frz d H v).map fun (v', vis) => (.iface t v', vis)
  | d + 1, H, .agg cs => (frzL d H cs).map fun (r, vis) => (.agg r, vis)
  | d + 1, H, .tup cs => (frzL d H cs).map fun (r, vis) => (.tup r, vis)
  | _ + 1, _, .mp _ => none
  | _ + 1, _, .bad => none
  | _ + 1, _, v => some (v, [])
def frzL : Nat → Heap → List XV → Option (List XV × List Nat)
  | 0, _, _ => none
  | _ + 1, _, [] => some ([], [])
  | d + 1, H, v :: r => (frz d H v).bind fun (v', v1) => (frzL d H r).map fun (r', v2) => (v' :: r', v1 ++ v2)
end

def killAll (H : Heap) : List Nat → Heap
  | [] => H
  | b :: r => killAll (H.set b .dead) r

/-! ### runs -/

inductive CR where
  | ret (v : XV) (H : Heap)
  | pan (v : XV) (H : Heap)

structure Env where
  fns : Nat → Option XF
  iso : Nat → Bool
  fz : Nat → Bool
  ora : Nat → List XV → Option XV
  glob : Nat → Option (List XV)

inductive OR where
  | val (v : XV) (H : Heap)
  | pan (v : XV) (H : Heap)
  | dfr (f : Nat) (args : List XV)

abbrev CallF := Nat → List XV → Heap → Option CR

def ev (E : Env) (T : List XV) : XO → XV
  | .t n => T.getD n und
  | .c v => v
  | .g n => match E.glob n with
    | some cs => .vp cs
    | none => .bad

def depth : Nat := 1000000

def back (H : Heap) (r : XV) (vis : List Nat) : CR := if flat r then .ret r H else .ret r (killAll H vis)

def docall (E : Env) (call : CallF) (f : Nat) (args : List XV) (H : Heap) : Option CR :=
  if E.iso f then
    match frzL depth H args with
    | none => none
    | some (args', vis) =>
      match E.ora f args' with
      | some r => some (back H r vis)
      | none => match call f args' [] with
        | some (.ret r _) => some (back H r vis)
        | some (.pan v _) => if flat v then some (.pan v H) else none
        | none => none
  else call f args H

def okv (o : Option XV) (H : Heap) : Option OR := o.map (.val · H)

def xop (E : Env) (call : CallF) (op : XOp) (T : List XV) (H : Heap) : Option OR :=
  match op with
  | .mv x => some (.val (ev E T x) H)
  | .pick c a b => match ev E T c with
    | .bool t => some (.val (if t then ev E T a else ev E T b) H)
    | _ => none
  | .box ty x => some (.val (.ptr H.length 0) (H ++ [.tcells (cellsOf (ev E T x)) ty true]))
  | .alloc ty zero => some (.val (.ptr H.length 0) (H ++ [.tcells zero ty true]))
  | .build zero parts => okv ((putParts zero (parts.map fun (o, s, x) => (o, s, ev E T x))).map .agg) H
  | .bslice esz len zero parts => (putParts (repCells zero len) (parts.map fun (o, s, x) => (o, s, ev E T x))).map fun cs =>
      .val (.sl H.length 0 len esz) (H ++ [.cells cs])
  | .load sz a x => match ev E T x with
    | .ptr b off => match cellsAt H b with
      | some cs => okv ((takeAt cs off sz).bind (one · a)) H
      | none => none
    | .vp cs => okv ((takeAt cs 0 sz).bind (one · a)) H
    | _ => none
  | .store sz x y => match ev E T x with
    | .ptr b off => match cellsAt H b with
      | some cs => if off + sz ≤ cs.length ∧ (cellsOf (ev E T y)).length = sz ∧ (cellsOf (ev E T y)).all oneCell then
          some (.val und (H.set b (setCs H b (putAt cs off (cellsOf (ev E T y)))))) else none
      | none => none
    | _ => none
  | .nilc x => match ev E T x with
    | .ptr b o => some (.val (.ptr b o) H)
    | .vp cs => some (.val (.vp cs) H)
    | .fn (.func f) a b => some (.val (.fn (.func f) a b) H)
    | _ => none
  | .bin op x y => okv (bin op (ev E T x) (ev E T y)) H
  | .eq neg k x y => okv ((xeq k (ev E T x) (ev E T y)).map fun b => .bool (if neg then !b else b)) H
  | .eqP neg x y => match ev E T x, ev E T y with
    | .ptr b o, .ptr c p => if b = c ∧ o = p then some (.val (.bool (!neg)) H) else none
    | _, _ => none
  | .un op x => okv (un op (ev E T x)) H
  | .convI k x => match ev E T x with
    | .int _ n => some (.val (.int k (k.wrap n)) H)
    | _ => none
  | .convS x => match ev E T x with
    | .str s => some (.val (.str s) H)
    | _ => none
  | .convB x => match ev E T x with
    | .nils => some (.val (.str []) H)
    | .sl b off len esz => if esz = 1 then (match cellsAt H b with
      | some cs => okv (((takeAt cs off len).bind bytesOf).map .str) H
      | none => none) else none
    | .vs len cs => okv (((takeAt cs 0 len).bind bytesOf).map .str) H
    | _ => none
  | .convBs x => match ev E T x with
    | .str s => some (.val (.sl H.length 0 s.length 1) (H ++ [.cells (cellsOfStr s)]))
    | _ => none
  | .mkif t x => some (.val (.iface t (ev E T x)) H)
  | .mkfn f a b => some (.val (.fn f (a.map (ev E T)) (b.map (ev E T))) H)
  | .slice st esz x lo hi => match st, ev E T x with
    | true, .str s => match bound (hi.map (ev E T)) s.length, bound (lo.map (ev E T)) 0 with
      | some h, some l => if h ≤ s.length ∧ l ≤ h then some (.val (.str ((s.take h).drop l)) H) else none
      | _, _ => none
    | false, .sl b off len e => match bound (hi.map (ev E T)) len, bound (lo.map (ev E T)) 0 with
      | some h, some l => if h ≤ len ∧ l ≤ h ∧ e = esz then some (.val (.sl b (off + l * esz) (h - l) esz) H) else none
      | _, _ => none
    | false, .vs len cs => match bound (hi.map (ev E T)) len, bound (lo.map (ev E T)) 0 with
      | some h, some l => if h ≤ len ∧ l ≤ h ∧ h * esz ≤ cs.length then some (.val (.vs (h - l) ((cs.take (h * esz)).drop (l * esz))) H) else none
      | _, _ => none
    | false, .nils => match bound (hi.map (ev E T)) 0, bound (lo.map (ev E T)) 0 with
      | some 0, some 0 => some (.val .nils H)
      | _, _ => none
    | _, _ => none
  | .sliceA len esz x lo hi => match ev E T x with
    | .ptr b off => match bound (hi.map (ev E T)) len, bound (lo.map (ev E T)) 0, cellsAt H b with
      | some h, some l, some cs => if h ≤ len ∧ l ≤ h ∧ off + len * esz ≤ cs.length then some (.val (.sl b (off + l * esz) (h - l) esz) H) else none
      | _, _, _ => none
    | _ => none
  | .faddr off x => match ev E T x with
    | .ptr b o => some (.val (.ptr b (o + off)) H)
    | .vp cs => if off ≤ cs.length then some (.val (.vp (cs.drop off)) H) else none
    | _ => none
  | .field off sz a x => match ev E T x with
    | .agg cs => okv ((takeAt cs off sz).bind (one · a)) H
    | _ => none
  | .iaddr esz x i => match ev E T x, asNat (ev E T i) with
    | .sl b off len _, some n => if n < len then some (.val (.ptr b (off + n * esz)) H) else none
    | .vs len cs, some n => if n < len ∧ n * esz ≤ cs.length then some (.val (.vp (cs.drop (n * esz))) H) else none
    | _, _ => none
  | .iaddrA len esz x i => match ev E T x, asNat (ev E T i) with
    | .ptr b off, some n => if n < len then some (.val (.ptr b (off + n * esz)) H) else none
    | .vp cs, some n => if n < len ∧ n * esz ≤ cs.length then some (.val (.vp (cs.drop (n * esz))) H) else none
    | _, _ => none
  | .idxS x i => match ev E T x, asNat (ev E T i) with
    | .str s, some n => match s[n]? with
      | some c => some (.val (.int .u8 (c.toNat : Int)) H)
      | none => none
    | _, _ => none
  | .idxA len esz a x i => match ev E T x, asNat (ev E T i) with
    | .agg cs, some n => if n < len then okv ((takeAt cs (n * esz) esz).bind (one · a)) H else none
    | _, _ => none
  | .extract x i => match ev E T x with
    | .tup vs => match vs[i]? with
      | some v => some (.val v H)
      | none => none
    | _ => none
  | .len st x => okv ((lenOf st (ev E T x)).map fun (n : Nat) => XV.int .i64 (n : Int)) H
  | .lenC n => some (.val (.int .i64 (n : Int)) H)
  | .append st esz bytes ty x y =>
    match newOf H st esz (ev E T y) with
    | none => none
    | some (nw, n) => if nw.all oneCell then
      match ev E T x with
      | .nils => if n * bytes ≤ 2 ^ 47 ∧ n ≤ 2 ^ 47 then
          (if n = 0 then some (.val .nils H) else some (.val (.sl H.length 0 n esz) (H ++ [.tcells nw ty false]))) else none
      | .sl b off len e => if e = esz ∧ (len + n) * bytes ≤ 2 ^ 47 ∧ len + n ≤ 2 ^ 47 then
          (match cellsAt H b with
          | some cs => match takeAt cs off (len * esz) with
            | some od => some (.val (.sl H.length 0 (len + n) esz) (H.set b .dead ++ [retag H b ty (od ++ nw)]))
            | none => none
          | none => none) else none
      | _ => none
      else none
  | .toU x => match ev E T x with
    | .ptr b off => match cellsAt H b with
      | some cs => if off < cs.length then some (.val (.ptr b off) H) else none
      | none => none
    | _ => none
  | .fromU l x => match ev E T x with
    | .ptr b 0 => match H[b]? with
      | some (.tcells cs ty true) => if l.contains (ty, cs.length) then some (.val (.ptr b 0) H) else none
      | _ => none
    | _ => none
  | .sdata x => match ev E T x with
    | .nils => some (.val .nilp H)
    | .sl b off len _ => if len = 0 then none else some (.val (.ptr b off) H)
    | _ => none
  | .ustr e x n => match ev E T x, ev E T n with
    | .nilp, .int .i64 0 => some (.val (.str []) H)
    | .ptr b off, .int .i64 n => match H[b]? with
      | some (.tcells cs ty _) => if ty = e ∧ 0 < n ∧ n ≤ 2 ^ 47 then (match (takeAt cs off n.toNat).bind bytesOf with
        | some l => some (.val (.str l) (H.set b .dead))
        | none => none) else none
      | _ => none
    | _, _ => none
  | .max xs => match xs.map (ev E T) with
    | [] => none
    | x :: r => okv (fold2 max2 x r) H
  | .min xs => match xs.map (ev E T) with
    | [] => none
    | x :: r => okv (fold2 min2 x r) H
  | .makeS esz bytes zero l c => match ev E T l, ev E T c with
    | .int .i64 n, .int .i64 m => if 0 ≤ n ∧ n ≤ m ∧ m * bytes ≤ 2 ^ 47 ∧ m ≤ 2 ^ 47 then
        some (.val (.sl H.length 0 n.toNat esz) (H ++ [.cells (repCells zero n.toNat)])) else none
    | _, _ => none
  | .range x => match ev E T x with
    | .str s => some (.val (.ptr H.length 0) (H ++ [.siter s 0]))
    | _ => none
  | .next x => match ev E T x with
    | .ptr b 0 => match H[b]? with
      | some (.siter s pos) =>
        if pos < s.length then
          let r := Utf8.decode ⟨s.toArray⟩ pos
          some (.val (.tup [.bool true, .int .i64 (pos : Int), .int .i32 r.1]) (H.set b (.siter s (pos + r.2))))
        else some (.val (.tup [.bool false]) H)
      | _ => none
    | _ => none
  | .makeM => some (.val (.mp H.length) (H ++ [.mapc []]))
  | .insert m k v => match ev E T m, ev E T k with
    | .mp b, .str s => match H[b]? with
      | some (.mapc es) => match findKey (.str s) es with
        | some none => some (.val und (H.set b (.mapc (es ++ [(.str s, ev E T v)]))))
        | _ => none
      | _ => none
    | _, _ => none
  | .lookup zero ok m k => match ev E T m, ev E T k with
    | .mp b, .str s => match H[b]? with
      | some (.mapc es) => match findKey (.str s) es with
        | some (some v) => some (.val (if ok then .tup [v, .bool true] else v) H)
        | some none => some (.val (if ok then .tup [zero, .bool false] else zero) H)
        | none => none
      | _ => none
    | _, _ => none
  | .tassert t zero ok x => match ev E T x with
    | .iface u v => if u = t then some (.val (if ok then .tup [v, .bool true] else v) H)
        else if ok then some (.val (.tup [zero, .bool false]) H) else none
    | .nili => if ok then some (.val (.tup [zero, .bool false]) H) else none
    | _ => none
  | .panic x => match ev E T x with
    | .iface t v => some (.pan (.iface t v) H)
    | _ => none
  | .call f args => match ev E T f with
    | .fn (.func g) first captured =>
      match docall E call g (first ++ args.map (ev E T) ++ captured) H with
      | some (.ret v H') => some (.val v H')
      | some (.pan v H') => some (.pan v H')
      | none => none
    | _ => none
  | .defer f args => match ev E T f with
    | .fn (.func g) first captured => some (.dfr g (first ++ args.map (ev E T) ++ captured))
    | _ => none

inductive XE where
  | norm
  | exit (id : Nat)
  | ret
  | pan (v : XV)
  deriving Inhabited

structure St where
  T : List XV
  H : Heap
  D : List (Nat × List XV)
  deriving Inhabited

def putT (T : List XV) (d : Option Nat) (v : XV) : List XV :=
  match d with
  | some n => T.set n v
  | none => T

def want (T : List XV) : Option (Nat × Bool) → Bool
  | none => true
  | some (n, b) => match T[n]? with
    | some (.bool c) => c == b
    | _ => false

def xoper (E : Env) (call : CallF) (o : XOper) (s : St) : Option (XE × St) :=
  if want s.T o.guard then
    match xop E call o.op s.T s.H with
    | some (.val v H) => some (.norm, { s with T := putT s.T o.dst v, H := H })
    | some (.pan v H) => some (.pan v, { s with H := H })
    | some (.dfr f args) => some (.norm, { s with T := putT s.T o.dst und, D := (f, args) :: s.D })
    | none => none
  else some (.norm, { s with T := putT s.T o.dst und })

def xops (E : Env) (call : CallF) : List XOper → St → Option (XE × St)
  | [], s => some (.norm, s)
  | o :: r, s => match xoper E call o s with
    | some (.norm, s') => xops E call r s'
    | e => e

/-- The results, behind the body. -/
def resOf (T : List XV) (H : Heap) : List XRes → Option (List XV)
  | [] => some []
  | .t n :: r => (resOf T H r).map (T.getD n und :: ·)
  | .c n sz a :: r => match T.getD n und with
    | .ptr b off => match cellsAt H b with
      | some cs => match (takeAt cs off sz).bind (one · a), resOf T H r with
        | some v, some vs => some (v :: vs)
        | _, _ => none
      | none => none
    | _ => none

def tupOf : List XV → XV
  | [v] => v
  | vs => .tup vs

def loopN (body : St → Option (XE × St)) : Nat → St → Option (XE × St)
  | 0, _ => none
  | n + 1, s => match body s with
    | some (.norm, s') => loopN body n s'
    | e => e

end Go.X
namespace Go.X
open Go

/-! ### equality of values, as a test -/
mutual
def beqX : XV → XV → Bool
  | .bool a, .bool b => a == b
  | .int k a, .int l b => decide (k = l) && decide (a = b)
  | .str a, .str b => a == b
  | .ptr a b, .ptr c d => a == c && b == d
  | .vp a, .vp b => beqXs a b
  | .nilp, .nilp => true
  | .sl a b c d, .sl a' b' c' d' => a == a' && b == b' && c == c' && d == d'
  | .vs n a, .vs m b => n == m && beqXs a b
  | .nils, .nils => true
  | .fn f a b, .fn g c d => decide (f = g) && beqXs a c && beqXs b d
  | .nilf, .nilf => true
  | .iface t a, .iface u b => t == u && beqX a b
  | .nili, .nili => true
  | .agg a, .agg b => beqXs a b
  | .tup a, .tup b => beqXs a b
  | .mp a, .mp b => a == b
  | .bad, .bad => true
  | _, _ => false
def beqXs : List XV → List XV → Bool
  | [], [] => true
  | a :: x, b :: y => beqX a b && beqXs x y
  | _, _ => false
end

mutual
theorem beqX_eq : ∀ {x y : XV}, beqX x y = true → x = y
  | .bool _, y, h => by cases y <;> simp [beqX] at h; rw [h]
  | .int _ _, y, h => by cases y <;> simp [beqX] at h; rw [h.1, h.2]
  | .str _, y, h => by cases y <;> simp [beqX] at h; rw [h]
  | .ptr _ _, y, h => by cases y <;> simp [beqX] at h; rw [h.1, h.2]
  | .vp _, y, h => by cases y <;> simp [beqX] at h; rw [beqXs_eq h]
  | .nilp, y, h => by cases y <;> simp [beqX] at h; rfl
  | .sl _ _ _ _, y, h => by cases y <;> simp [beqX] at h; obtain ⟨⟨⟨h1, h2⟩, h3⟩, h4⟩ := h; rw [h1, h2, h3, h4]
  | .vs _ _, y, h => by cases y <;> simp [beqX] at h; rw [h.1, beqXs_eq h.2]
  | .nils, y, h => by cases y <;> simp [beqX] at h; rfl
  | .fn _ _ _, y, h => by cases y <;> simp [beqX] at h; obtain ⟨⟨h1, h2⟩, h3⟩ := h; rw [h1, beqXs_eq h2, beqXs_eq h3]
  | .nilf, y, h => by cases y <;> simp [beqX] at h; rfl
  | .iface _ _, y, h => by cases y <;> simp [beqX] at h; rw [h.1, beqX_eq h.2]
  | .nili, y, h => by cases y <;> simp [beqX] at h; rfl
  | .agg _, y, h => by cases y <;> simp [beqX] at h; rw [beqXs_eq h]
  | .tup _, y, h => by cases y <;> simp [beqX] at h; rw [beqXs_eq h]
  | .mp _, y, h => by cases y <;> simp [beqX] at h; rw [h]
  | .bad, y, h => by cases y <;> simp [beqX] at h; rfl
theorem beqXs_eq : ∀ {x y : List XV}, beqXs x y = true → x = y
  | [], y, h => by cases y <;> simp [beqXs] at h; rfl
  | a :: x, y, h => by
    cases y with
    | nil => simp [beqXs] at h
    | cons b y => simp [beqXs] at h; rw [beqX_eq h.1, beqXs_eq h.2]
end

mutual
theorem beqX_refl : ∀ x : XV, beqX x x = true
  | .bool _ | .int _ _ | .str _ | .ptr _ _ | .nilp | .sl _ _ _ _ | .nils | .nilf | .nili | .mp _ | .bad => by simp [beqX]
  | .vp a | .agg a | .tup a => by simp [beqX, beqXs_refl a]
  | .vs _ a => by simp [beqX, beqXs_refl a]
  | .fn _ a b => by simp [beqX, beqXs_refl a, beqXs_refl b]
  | .iface _ a => by simp [beqX, beqX_refl a]
theorem beqXs_refl : ∀ x : List XV, beqXs x x = true
  | [] => by simp [beqXs]
  | a :: x => by simp [beqXs, beqX_refl a, beqXs_refl x]
end

/-! ### what an operation looks at -/
def usesX : XOp → List XO
  | .mv x | .box _ x | .toU x | .fromU _ x | .sdata x | .load _ _ x | .nilc x | .un _ x | .convI _ x | .convS x | .convB x | .convBs x | .mkif _ x | .faddr _ x | .field _ _ _ x | .extract x _ | .len _ x | .range x | .next x | .tassert _ _ _ x | .panic x => [x]
  | .pick a b c => [a, b, c]
  | .alloc _ _ | .lenC _ | .makeM => []
  | .build _ ps => ps.map (·.2.2)
  | .bslice _ _ _ ps => ps.map (·.2.2)
  | .store _ x y | .bin _ x y | .eq _ _ x y | .iaddr _ x y | .iaddrA _ _ x y | .idxS x y | .idxA _ _ _ x y | .append _ _ _ _ x y | .ustr _ x y | .eqP _ x y | .makeS _ _ _ x y | .lookup _ _ x y => [x, y]
  | .mkfn _ a b => a ++ b
  | .slice _ _ x l h => x :: (l.toList ++ h.toList)
  | .sliceA _ _ x l h => x :: (l.toList ++ h.toList)
  | .max xs | .min xs => xs
  | .insert a b c => [a, b, c]
  | .call f xs => f :: xs
  | .defer f xs => f :: xs

/-! ### kinds: 0 looks at no memory; 2 looks at memory; 3 turns or makes it -/
def kindO (E : Env) (op : XOp) (T : List XV) (H : Heap) : Nat :=
  match op with
  | .load _ _ _ | .convB _ | .lookup _ _ _ _ | .sliceA _ _ _ _ _ | .toU _ | .fromU _ _ => 2
  | .box _ _ | .alloc _ _ | .ustr _ _ _ | .bslice _ _ _ _ | .convBs _ | .makeS _ _ _ _ _ | .range _ | .makeM | .store _ _ _ | .append _ _ _ _ _ _ | .insert _ _ _ | .next _ | .defer _ _ | .panic _ => 3
  | .call f xs => match ev E T f with
    | .fn (.func g) first captured => if E.iso g then (match frzL depth H (first ++ xs.map (ev E T) ++ captured) with
      | some (_, []) => 0
      | _ => 3) else 3
    | _ => 3
  | _ => 0

/-! ### the run in the text's order, with its trace -/
structure DR where
  o : XOper
  T : List XV
  H : Heap
  v : XV
  H' : Heap
  w : Bool
  deriving Inhabited

def traceD (E : Env) (call : CallF) : List XOper → List XV → Heap → Option (List DR)
  | [], _, _ => some []
  | o :: r, T, H =>
    if want T o.guard then match xop E call o.op T H with
      | some (.val v H') => match traceD E call r (putT T o.dst v) H' with
        | some l => some (⟨o, T, H, v, H', true⟩ :: l)
        | none => none
      | _ => none
    else match traceD E call r (putT T o.dst und) H with
      | some l => some (⟨o, T, H, und, H, false⟩ :: l)
      | none => none

def kindD (E : Env) (r : DR) : Nat := if r.w then kindO E r.o.op r.T r.H else 0

def evalEq (E : Env) (call : CallF) (r : DR) (H : Heap) : Bool :=
  match xop E call r.o.op r.T H with
  | some (.val v _) => beqX v r.v
  | _ => false

def holdsD (E : Env) (call : CallF) (r e : DR) : Bool := evalEq E call r e.H && evalEq E call r e.H'

def pairOk (E : Env) (call : CallF) (ord : Bool) (ri rj : DR) : Bool :=
  if ord then true else
  match kindD E ri, kindD E rj with
  | 3, 3 => false
  | 3, 2 => holdsD E call rj ri
  | 2, 3 => holdsD E call ri rj
  | _, _ => true

def pairsOk (E : Env) (call : CallF) (cl : List Nat) (rs : List DR) : Bool :=
  (List.range rs.length).all fun j => (List.range j).all fun i =>
    match rs[i]?, rs[j]? with
    | some ri, some rj => pairOk E call ((cl.getD j 0).testBit i) ri rj
    | _, _ => true

def lastT (T : List XV) : List DR → List XV
  | [] => T
  | r :: rs => lastT (putT r.T r.o.dst r.v) rs
def lastH (H : Heap) : List DR → Heap
  | [] => H
  | r :: rs => lastH r.H' rs

def runD (E : Env) (call : CallF) (ops : List XOper) (cl : List Nat) (s : St) : Option (XE × St) :=
  match traceD E call ops s.T s.H with
  | some rs => if pairsOk E call cl rs then some (.norm, { s with T := lastT s.T rs, H := lastH s.H rs }) else none
  | none => none

/-! ### what is before what -/
def bitsL (acc : List Nat) : List Nat → Nat
  | [] => 0
  | d :: r => (2 ^ d ||| acc.getD d 0) ||| bitsL acc r

def closL : List (List Nat) → List Nat → List Nat
  | [], acc => acc
  | ds :: r, acc => closL r (acc ++ [bitsL acc ds])

def tmpOf : XO → Option Nat
  | .t n => some n
  | _ => none

def looksX (o : XOper) : List Nat := (usesX o.op).filterMap tmpOf ++ (match o.guard with
  | some (t, _) => [t]
  | none => [])

def conflX (a b : XOper) : Bool :=
  (match a.dst with
  | some d => (looksX b).contains d || b.dst == some d
  | none => false) || (match b.dst with
  | some d => (looksX a).contains d
  | none => false)

def statOk (ops : List XOper) (cl : List Nat) : Bool :=
  (List.range ops.length).all fun j => (List.range j).all fun i =>
    match ops[i]?, ops[j]? with
    | some a, some b => !conflX a b || (cl.getD j 0).testBit i
    | _, _ => true

def backOk (dirs : List (List Nat)) : Bool := (List.range dirs.length).all fun k => (dirs.getD k []).all (· < k)

end Go.X
namespace Go.X
open Go

structure Ctx where
  blk : Nat → Option (Nat × Nat × Nat)
  ro : Nat → Option Obj

/-- What stays as it is, alone. -/
def Ctx.pure (σ : Ctx) : Ctx := ⟨fun _ => none, σ.ro⟩

mutual
/-- How a value stands for a value of the program's form. -/
def rel : Ctx → XV → Value → Prop
  | _, .bool b, v => v = .bool b
  | _, .int k n, v => v = .int k n
  | _, .str s, v => v = .string ⟨s.toArray⟩
  | σ, .ptr b off, v => ∃ B base n, σ.blk b = some (B, base, n) ∧ v = .pointer (some ⟨B, base + off, none⟩)
  | σ, .vp cells, v => ∃ B off, v = .pointer (some ⟨B, off, none⟩) ∧ (cells = [] ∨ ∃ C e fr, σ.ro B = some (.cells C e fr) ∧ off + cells.length ≤ C.size ∧ relL σ.pure cells ((C.toList.drop off).take cells.length))
  | _, .nilp, v => v = .pointer none
  | σ, .sl b off len esz, v => ∃ B base n, σ.blk b = some (B, base, n) ∧ ∃ o cap, v = .slice (some ⟨B, o, none⟩) len cap ∧ len ≤ cap ∧ ((o = base + off ∧ o + cap * esz ≤ n) ∨ cap = 0)
  | σ, .vs len cells, v => (∃ B off cap, v = .slice (some ⟨B, off, none⟩) len cap ∧ len ≤ cap ∧ (cells = [] ∨ ∃ C e fr, σ.ro B = some (.cells C e fr) ∧ off + cells.length ≤ C.size ∧ relL σ.pure cells ((C.toList.drop off).take cells.length))) ∨
      (len = 0 ∧ cells = [] ∧ ∃ a cap, v = .slice (some a) 0 cap)
  | _, .nils, v => v = .slice none 0 0
  | σ, .fn f a b, v => ∃ a' b', v = .func f a' b' ∧ relL σ a a'.toList ∧ relL σ b b'.toList
  | _, .nilf, v => v = .nilFunc
  | σ, .iface t x, v => ∃ x', v = .iface t x' ∧ rel σ x x'
  | _, .nili, v => v = .nilIface
  | σ, .agg cs, v => ∃ cs', v = .agg cs' ∧ relL σ cs cs'.toList
  | σ, .tup cs, v => ∃ cs', v = .tuple cs' ∧ relL σ cs cs'.toList
  | σ, .mp b, v => ∃ B base n, σ.blk b = some (B, base, n) ∧ v = .map (some B)
  | _, .bad, v => ∃ g, v = .pointer (some ⟨g, 0, none⟩)
def relL : Ctx → List XV → List Value → Prop
  | _, [], vs => vs = []
  | σ, x :: xs, vs => ∃ v r, vs = v :: r ∧ rel σ x v ∧ relL σ xs r
end

theorem relL_nil {σ : Ctx} : relL σ [] [] := by simp [relL]
theorem relL_cons {σ : Ctx} {x xs v vs} (h : rel σ x v) (hs : relL σ xs vs) : relL σ (x :: xs) (v :: vs) := by
  simp only [relL]; exact ⟨v, vs, rfl, h, hs⟩
theorem relL_one {σ : Ctx} {x v} (h : rel σ x v) : relL σ [x] [v] := relL_cons h relL_nil

theorem relL_length {σ : Ctx} : ∀ {xs vs}, relL σ xs vs → vs.length = xs.length
  | [], vs, h => by simp only [relL] at h; subst h; rfl
  | x :: xs, vs, h => by
    simp only [relL] at h
    obtain ⟨v, r, rfl, _, hr⟩ := h
    simp [relL_length hr]

theorem relL_get {σ : Ctx} : ∀ {xs vs} (i : Nat) {x}, relL σ xs vs → xs[i]? = some x → ∃ v, vs[i]? = some v ∧ rel σ x v
  | [], _, _, _, _, hx => by simp at hx
  | y :: ys, vs, i, x, h, hx => by
    simp only [relL] at h
    obtain ⟨v, r, rfl, hv, hr⟩ := h
    cases i with
    | zero => simp at hx; subst hx; exact ⟨v, by simp, hv⟩
    | succ i => simp at hx; obtain ⟨u, hu, hru⟩ := relL_get i hr hx; exact ⟨u, by simpa using hu, hru⟩

theorem relL_none {σ : Ctx} {xs vs} {i : Nat} (h : relL σ xs vs) (hx : xs[i]? = none) : vs[i]? = none := by
  have := relL_length h
  simp at *; omega

theorem relL_of_get {σ : Ctx} : ∀ {xs : List XV} {vs : List Value}, vs.length = xs.length → (∀ (i : Nat) (x : XV) (v : Value), xs[i]? = some x → vs[i]? = some v → rel σ x v) → relL σ xs vs
  | [], [], _, _ => relL_nil
  | x :: xs, v :: vs, hl, h => by
    refine relL_cons (h 0 x v rfl rfl) (relL_of_get (by simpa using hl) fun i y u hy hu => h (i + 1) y u (by simpa using hy) (by simpa using hu))
  | [], _ :: _, hl, _ => by simp at hl
  | _ :: _, [], hl, _ => by simp at hl

theorem relL_append {σ : Ctx} : ∀ {xs vs ys us}, relL σ xs vs → relL σ ys us → relL σ (xs ++ ys) (vs ++ us)
  | [], vs, ys, us, h, h2 => by simp only [relL] at h; subst h; simpa using h2
  | x :: xs, vs, ys, us, h, h2 => by
    simp only [relL] at h
    obtain ⟨v, r, rfl, hv, hr⟩ := h
    exact relL_cons hv (relL_append hr h2)

theorem relL_take {σ : Ctx} : ∀ {xs vs} (n : Nat), relL σ xs vs → relL σ (xs.take n) (vs.take n)
  | [], vs, n, h => by simp only [relL] at h; subst h; simp [relL]
  | x :: xs, vs, 0, h => by simp [relL]
  | x :: xs, vs, n + 1, h => by
    simp only [relL] at h
    obtain ⟨v, r, rfl, hv, hr⟩ := h
    simpa using relL_cons hv (relL_take n hr)

theorem relL_drop {σ : Ctx} : ∀ {xs vs} (n : Nat), relL σ xs vs → relL σ (xs.drop n) (vs.drop n)
  | xs, vs, 0, h => by simpa using h
  | [], vs, n + 1, h => by simp only [relL] at h; subst h; simp [relL]
  | x :: xs, vs, n + 1, h => by
    simp only [relL] at h
    obtain ⟨v, r, rfl, hv, hr⟩ := h
    simpa using relL_drop n hr

theorem relL_set {σ : Ctx} : ∀ {xs vs} (n : Nat) {x v}, relL σ xs vs → rel σ x v → relL σ (xs.set n x) (vs.set n v)
  | [], vs, n, x, v, h, _ => by simp only [relL] at h; subst h; simp [relL]
  | y :: ys, vs, 0, x, v, h, hx => by
    simp only [relL] at h
    obtain ⟨u, r, rfl, _, hr⟩ := h
    simpa using relL_cons hx hr
  | y :: ys, vs, n + 1, x, v, h, hx => by
    simp only [relL] at h
    obtain ⟨u, r, rfl, hu, hr⟩ := h
    simpa using relL_cons hu (relL_set n hr hx)

theorem relL_replicate {σ : Ctx} {x v} (h : rel σ x v) : ∀ n, relL σ (List.replicate n x) (List.replicate n v)
  | 0 => by simp [relL]
  | n + 1 => by simpa [List.replicate_succ] using relL_cons h (relL_replicate h n)

theorem relL_map {σ : Ctx} {α : Type} {f : α → XV} {g : α → Value} (h : ∀ a, rel σ (f a) (g a)) : ∀ l : List α, relL σ (l.map f) (l.map g)
  | [] => by simp [relL]
  | a :: l => by simpa using relL_cons (h a) (relL_map h l)

structure Ctx.Le (σ τ : Ctx) : Prop where
  blk : ∀ b x, σ.blk b = some x → τ.blk b = some x
  ro : ∀ B o, σ.ro B = some o → τ.ro B = some o

theorem Ctx.Le.refl (σ : Ctx) : σ.Le σ := ⟨fun _ _ h => h, fun _ _ h => h⟩
theorem Ctx.pure_le (σ : Ctx) : σ.pure.Le σ := ⟨fun _ _ h => by simp [Ctx.pure] at h, fun _ _ h => h⟩
theorem Ctx.Le.pure {σ τ : Ctx} (h : σ.Le τ) : σ.pure.Le τ.pure := ⟨fun _ _ h => by simp [Ctx.pure] at h, h.ro⟩
theorem Ctx.Le.trans {σ τ υ : Ctx} (h : σ.Le τ) (k : τ.Le υ) : σ.Le υ := ⟨fun b x hx => k.blk b x (h.blk b x hx), fun B o ho => k.ro B o (h.ro B o ho)⟩

mutual
theorem rel_mono : ∀ {σ τ : Ctx} (_ : σ.Le τ) {x v}, rel σ x v → rel τ x v
  | _, _, h, .bool _, _, hr => by simpa [rel] using hr
  | _, _, h, .int _ _, _, hr => by simpa [rel] using hr
  | _, _, h, .str _, _, hr => by simpa [rel] using hr
  | _, _, h, .nilp, _, hr => by simpa [rel] using hr
  | _, _, h, .nils, _, hr => by simpa [rel] using hr
  | _, _, h, .nilf, _, hr => by simpa [rel] using hr
  | _, _, h, .nili, _, hr => by simpa [rel] using hr
  | _, _, h, .bad, _, hr => by simpa [rel] using hr
  | _, _, h, .ptr b off, v, hr => by
    simp only [rel] at hr ⊢
    obtain ⟨B, base, n, hb, rfl⟩ := hr
    exact ⟨B, base, n, h.blk _ _ hb, rfl⟩
  | _, _, h, .mp b, v, hr => by
    simp only [rel] at hr ⊢
    obtain ⟨B, base, n, hb, rfl⟩ := hr
    exact ⟨B, base, n, h.blk _ _ hb, rfl⟩
  | _, _, h, .vp cells, v, hr => by
    simp only [rel] at hr ⊢
    obtain ⟨B, off, rfl, hc⟩ := hr
    refine ⟨B, off, rfl, ?_⟩
    rcases hc with hc | ⟨C, e, fr, hro, hle, hl⟩
    · exact .inl hc
    · exact .inr ⟨C, e, fr, h.ro _ _ hro, hle, relL_mono h.pure hl⟩
  | _, _, h, .sl b off len esz, v, hr => by
    simp only [rel] at hr ⊢
    obtain ⟨B, base, n, hb, o, cap, rest⟩ := hr
    exact ⟨B, base, n, h.blk _ _ hb, o, cap, rest⟩
  | _, _, h, .vs len cells, v, hr => by
    simp only [rel] at hr ⊢
    rcases hr with ⟨B, off, cap, rfl, hlc, hc⟩ | hr
    · refine .inl ⟨B, off, cap, rfl, hlc, ?_⟩
      rcases hc with hc | ⟨C, e, fr, hro, hle, hl⟩
      · exact .inl hc
      · exact .inr ⟨C, e, fr, h.ro _ _ hro, hle, relL_mono h.pure hl⟩
    · exact .inr hr
  | _, _, h, .fn f a b, v, hr => by
    simp only [rel] at hr ⊢
    obtain ⟨a', b', rfl, ha, hb⟩ := hr
    exact ⟨a', b', rfl, relL_mono h ha, relL_mono h hb⟩
  | _, _, h, .iface t x, v, hr => by
    simp only [rel] at hr ⊢
    obtain ⟨x', rfl, hx⟩ := hr
    exact ⟨x', rfl, rel_mono h hx⟩
  | _, _, h, .agg cs, v, hr => by
    simp only [rel] at hr ⊢
    obtain ⟨x', rfl, hx⟩ := hr
    exact ⟨x', rfl, relL_mono h hx⟩
  | _, _, h, .tup cs, v, hr => by
    simp only [rel] at hr ⊢
    obtain ⟨x', rfl, hx⟩ := hr
    exact ⟨x', rfl, relL_mono h hx⟩
theorem relL_mono : ∀ {σ τ : Ctx} (_ : σ.Le τ) {xs vs}, relL σ xs vs → relL τ xs vs
  | _, _, h, [], _, hr => by simpa [relL] using hr
  | _, _, h, x :: xs, vs, hr => by
    simp only [relL] at hr ⊢
    obtain ⟨v, r, rfl, hv, hr⟩ := hr
    exact ⟨v, r, rfl, rel_mono h hv, relL_mono h hr⟩
end

/-- Is nothing of 'n' cells frozen? -/
def free (fr : Nat × Nat) (n : Nat) : Prop := fr.2 ≤ fr.1 ∨ n ≤ fr.1

/-- What an abstract block says of a block of the world. -/
def blkOk (σ : Ctx) (w : World) (base n : Nat) (B : Nat) : XB → Prop
  | .cells cs => ∃ C e fr, w.heap[B]? = some (.cells C e fr) ∧ C.size = n ∧ free fr n ∧ base + cs.length ≤ n ∧ relL σ cs ((C.toList.drop base).take cs.length)
  | .tcells cs ty full => (∃ C e fr, w.heap[B]? = some (.cells C e fr) ∧ C.size = n ∧ free fr n ∧ base + cs.length ≤ n ∧ relL σ cs ((C.toList.drop base).take cs.length)) ∧
      (∃ C fr, w.heap[B]? = some (.cells C ty fr)) ∧ (full = true → base = 0 ∧ cs.length = n)
  | .dead => True
  | .siter s pos => base = 0 ∧ w.heap[B]? = some (.stringIter ⟨s.toArray⟩ pos)
  | .mapc es => ∃ es' clock, w.heap[B]? = some (.map es' clock) ∧ relL σ (es.map (·.1)) (es'.toList.map (·.key)) ∧ relL σ (es.map (·.2)) (es'.toList.map (·.val))

def live (H : Heap) (b : Nat) : Prop := ∃ x, H[b]? = some x ∧ x ≠ .dead

def img (σ : Ctx) (H : Heap) (B : Nat) : Prop := ∃ b base n, live H b ∧ σ.blk b = some (B, base, n)

structure WF (σ : Ctx) (H : Heap) (w : World) : Prop where
  dom : ∀ b x, σ.blk b = some x → b < H.length
  lt : ∀ b B base n, σ.blk b = some (B, base, n) → B < w.heap.size
  ok : ∀ b x B base n, H[b]? = some x → σ.blk b = some (B, base, n) → blkOk σ w base n B x
  inj : ∀ b b' B x x', live H b → live H b' → σ.blk b = some (B, x) → σ.blk b' = some (B, x') → b = b'
  sep : ∀ b B x, live H b → σ.blk b = some (B, x) → σ.ro B = none
  ro : ∀ B o, σ.ro B = some o → w.heap[B]? = some o

/-- What a piece of a run does. -/
structure Step (σ : Ctx) (H : Heap) (w : World) (τ : Ctx) (K : Heap) (u : World) : Prop where
  le : σ.Le τ
  wf : WF τ K u
  frame : ∀ B, B < w.heap.size → ¬ img σ H B → u.heap[B]? = w.heap[B]?
  size : w.heap.size ≤ u.heap.size
  newb : ∀ b B x, σ.blk b = none → τ.blk b = some (B, x) → H.length ≤ b ∧ (w.heap.size ≤ B ∨ img σ H B)
  newr : ∀ B o, σ.ro B = none → τ.ro B = some o → w.heap.size ≤ B ∨ img σ H B
  len : H.length ≤ K.length
  away : ∀ b, b < H.length → σ.blk b = none → K[b]? = H[b]?
  dead : ∀ b : Nat, H[b]? = some XB.dead → K[b]? = some XB.dead
  calm : u.os = w.os ∧ u.output = w.output

theorem Step.refl {σ : Ctx} {H : Heap} {w : World} (h : WF σ H w) : Step σ H w σ H w :=
  ⟨.refl _, h, fun _ _ _ => rfl, Nat.le_refl _, fun b B x h1 h2 => by simp [h1] at h2, fun B o h1 h2 => by simp [h1] at h2, Nat.le_refl _, fun _ _ _ => rfl, fun _ h => h, ⟨rfl, rfl⟩⟩

theorem img_back {σ τ : Ctx} {H K : Heap} {w u : World} (h0 : WF σ H w) (h : Step σ H w τ K u) {B : Nat} (hB : B < w.heap.size) (hi : img τ K B) : img σ H B := by
  obtain ⟨b, base, n, ⟨x, hx, hne⟩, hb⟩ := hi
  cases hs : σ.blk b with
  | none =>
    rcases (h.newb b B _ hs hb).2 with h1 | h1
    · omega
    · exact h1
  | some y =>
    have hy := h.le.blk _ _ hs
    rw [hb] at hy
    cases hy
    have hlt := h0.dom _ _ hs
    refine ⟨b, base, n, ?_, hs⟩
    refine ⟨H[b], by simp [hlt], fun hd => ?_⟩
    have := h.dead b (by simp [hlt, hd])
    rw [hx] at this
    exact hne (by simpa using this)

theorem Step.trans {σ τ υ : Ctx} {H K L : Heap} {w u v : World} (h0 : WF σ H w) (h : Step σ H w τ K u) (k : Step τ K u υ L v) : Step σ H w υ L v := by
  refine ⟨h.le.trans k.le, k.wf, ?_, Nat.le_trans h.size k.size, ?_, ?_, Nat.le_trans h.len k.len, ?_, fun b hb => k.dead b (h.dead b hb), ⟨k.calm.1.trans h.calm.1, k.calm.2.trans h.calm.2⟩⟩
  · intro B hB hi
    rw [k.frame B (Nat.lt_of_lt_of_le hB h.size) (fun hh => hi (img_back h0 h hB hh)), h.frame B hB hi]
  · intro b B x hs hv
    cases ht : τ.blk b with
    | none =>
      obtain ⟨h1, h2⟩ := k.newb b B x ht hv
      refine ⟨Nat.le_trans h.len h1, ?_⟩
      rcases h2 with h2 | h2
      · exact .inl (Nat.le_trans h.size h2)
      · by_cases hB : B < w.heap.size
        · exact .inr (img_back h0 h hB h2)
        · exact .inl (by omega)
    | some y =>
      have := k.le.blk _ _ ht
      rw [hv] at this
      cases this
      exact h.newb b B x hs ht
  · intro B o hs hv
    cases ht : τ.ro B with
    | none =>
      rcases k.newr B o ht hv with h2 | h2
      · exact .inl (Nat.le_trans h.size h2)
      · by_cases hB : B < w.heap.size
        · exact .inr (img_back h0 h hB h2)
        · exact .inl (by omega)
    | some y => exact h.newr B y hs ht
  · intro b hb hs
    have h1 := h.away b hb hs
    cases ht : τ.blk b with
    | none => rw [k.away b (Nat.lt_of_lt_of_le hb h.len) ht, h1]
    | some y =>
      obtain ⟨B, z⟩ := y
      have := (h.newb b B z hs ht).1
      omega

/-! ### moves of the world -/

/-- Nothing of memory has moved. -/
theorem Step.same {σ : Ctx} {H : Heap} {w u : World} (h : WF σ H w) (hu : u.heap = w.heap) (hcalm : u.os = w.os ∧ u.output = w.output := by exact ⟨rfl, rfl⟩) : Step σ H w σ H u := by
  refine ⟨.refl _, ⟨h.dom, ?_, ?_, h.inj, h.sep, ?_⟩, fun _ _ _ => by rw [hu], by rw [hu]; exact Nat.le_refl _, fun b B x h1 h2 => by simp [h1] at h2, fun B o h1 h2 => by simp [h1] at h2, Nat.le_refl _, fun _ _ _ => rfl, fun _ h => h, hcalm⟩
  · intro b B base n hb; rw [hu]; exact h.lt _ _ _ _ hb
  · intro b x B base n hx hb
    have := h.ok b x B base n hx hb
    cases x <;> simp only [blkOk, hu] at this ⊢ <;> exact this
  · intro B o ho; rw [hu]; exact h.ro _ _ ho

theorem blkOk_mono {σ τ : Ctx} (hl : σ.Le τ) {w u : World} {base n B : Nat} {x : XB} (hu : u.heap[B]? = w.heap[B]?) (h : blkOk σ w base n B x) : blkOk τ u base n B x := by
  cases x with
  | cells cs =>
    obtain ⟨C, e, fr, h1, h2, h3, h4, h5⟩ := h
    exact ⟨C, e, fr, by rw [hu, h1], h2, h3, h4, relL_mono hl h5⟩
  | tcells cs ty full =>
    obtain ⟨⟨C, e, fr, h1, h2, h3, h4, h5⟩, ⟨C', fr', h6⟩, h7⟩ := h
    exact ⟨⟨C, e, fr, by rw [hu, h1], h2, h3, h4, relL_mono hl h5⟩, ⟨C', fr', by rw [hu, h6]⟩, h7⟩
  | dead => trivial
  | siter s pos => exact ⟨h.1, by rw [hu]; exact h.2⟩
  | mapc es =>
    obtain ⟨es', clock, h1, h2, h3⟩ := h
    exact ⟨es', clock, by rw [hu, h1], relL_mono hl h2, relL_mono hl h3⟩

/-- σ with one abstract block more. -/
def Ctx.add (σ : Ctx) (b : Nat) (x : Nat × Nat × Nat) : Ctx := { σ with blk := fun c => if c = b then some x else σ.blk c }

theorem Ctx.le_add {σ : Ctx} {b : Nat} {x : Nat × Nat × Nat} (h : σ.blk b = none) : σ.Le (σ.add b x) :=
  ⟨fun c y hc => by
    by_cases e : c = b
    · subst e; simp [h] at hc
    · simp [Ctx.add, e, hc], fun _ _ h => h⟩

theorem Ctx.add_at {σ : Ctx} {b : Nat} {x : Nat × Nat × Nat} : (σ.add b x).blk b = some x := by simp [Ctx.add]

/-- A new block at the end. -/
theorem Step.alloc {σ : Ctx} {H : Heap} {w : World} (h : WF σ H w) {n : Nat} {o : Obj} {x : XB}
    (hx : ∀ u : World, u.heap[w.heap.size]? = some o → blkOk (σ.add H.length (w.heap.size, 0, n)) u 0 n w.heap.size x) (u : World) (hu : u.heap = w.heap.push o) (hcalm : u.os = w.os ∧ u.output = w.output := by exact ⟨rfl, rfl⟩) :
    Step σ H w (σ.add H.length (w.heap.size, 0, n)) (H ++ [x]) u ∧ (σ.add H.length (w.heap.size, 0, n)).blk H.length = some (w.heap.size, 0, n) := by
  have hnone : σ.blk H.length = none := by
    cases hb : σ.blk H.length with
    | none => rfl
    | some y => have := h.dom _ _ hb; omega
  have hle := Ctx.le_add (x := (w.heap.size, 0, n)) hnone
  have hold : ∀ B, B < w.heap.size → u.heap[B]? = w.heap[B]? := fun B hB => by rw [hu, Array.getElem?_push]; simp [Nat.ne_of_lt hB]
  have hnew : u.heap[w.heap.size]? = some o := by rw [hu]; simp
  have hinv : ∀ b y, (σ.add H.length (w.heap.size, 0, n)).blk b = some y → (b = H.length ∧ y = (w.heap.size, 0, n)) ∨ (b < H.length ∧ σ.blk b = some y) := by
    intro b y hb
    by_cases e : b = H.length
    · subst e; left; simp [Ctx.add] at hb; exact ⟨rfl, hb.symm⟩
    · right
      simp [Ctx.add, e] at hb
      exact ⟨h.dom _ _ hb, hb⟩
  have hlive : ∀ b, b < H.length → live (H ++ [x]) b → live H b := fun b hb ⟨y, hy, hne⟩ => ⟨y, by rwa [List.getElem?_append_left hb] at hy, hne⟩
  refine ⟨⟨hle, ⟨?_, ?_, ?_, ?_, ?_, ?_⟩, fun B hB _ => hold B hB, by rw [hu]; simp, ?_, fun B o h1 h2 => by simp [Ctx.add, h1] at h2, by simp, ?_, ?_, hcalm⟩, Ctx.add_at⟩
  · intro b y hb
    rcases hinv b y hb with ⟨rfl, _⟩ | ⟨hlt, _⟩ <;> simp; omega
  · intro b B base n' hb
    rw [hu]; simp
    rcases hinv b _ hb with ⟨_, e⟩ | ⟨_, hs⟩
    · cases e; omega
    · have := h.lt _ _ _ _ hs; omega
  · intro b y B base n' hy hb
    rcases hinv b _ hb with ⟨rfl, e⟩ | ⟨hlt, hs⟩
    · cases e
      simp at hy
      subst hy
      exact hx u hnew
    · rw [List.getElem?_append_left hlt] at hy
      exact blkOk_mono hle (hold B (h.lt _ _ _ _ hs)) (h.ok _ _ _ _ _ hy hs)
  · intro b b' B y y' hb hb' h1 h2
    rcases hinv b _ h1 with ⟨rfl, e⟩ | ⟨hlt, hs⟩ <;> rcases hinv b' _ h2 with ⟨rfl, e'⟩ | ⟨hlt', hs'⟩
    · rfl
    · cases e; have := h.lt _ _ y'.1 y'.2 hs'; omega
    · cases e'; have := h.lt _ _ y.1 y.2 hs; omega
    · exact h.inj b b' B y y' (hlive _ hlt hb) (hlive _ hlt' hb') hs hs'
  · intro b B y hb h1
    rcases hinv b _ h1 with ⟨rfl, e⟩ | ⟨hlt, hs⟩
    · cases e
      show σ.ro w.heap.size = none
      cases hr : σ.ro w.heap.size with
      | none => rfl
      | some o' => have := h.ro _ _ hr; simp at this
    · exact h.sep b B y (hlive _ hlt hb) hs
  · intro B o' ho
    have hr := h.ro B o' ho
    have hB : B < w.heap.size := by
      rcases Nat.lt_or_ge B w.heap.size with h' | h'
      · exact h'
      · simp [Array.getElem?_eq_none h'] at hr
    rw [hold B hB, hr]
  · intro b B y h1 h2
    rcases hinv b _ h2 with ⟨rfl, e⟩ | ⟨_, hs⟩
    · cases e; exact ⟨Nat.le_refl _, .inl (Nat.le_refl _)⟩
    · simp [hs] at h1
  · intro b hb _; rw [List.getElem?_append_left hb]
  · intro b hb
    have : b < H.length := by
      rcases Nat.lt_or_ge b H.length with h' | h'
      · exact h'
      · simp [List.getElem?_eq_none h'] at hb
    rw [List.getElem?_append_left this, hb]

/-- One block is turned. -/
theorem Step.turn {σ : Ctx} {H : Heap} {w u : World} (h : WF σ H w) {b B base n : Nat} {x : XB} (hb : σ.blk b = some (B, base, n)) (hl : live H b)
    (hx : blkOk σ u base n B x) (hother : ∀ B', B' ≠ B → u.heap[B']? = w.heap[B']?) (hsz : u.heap.size = w.heap.size) (hcalm : u.os = w.os ∧ u.output = w.output := by exact ⟨rfl, rfl⟩) :
    Step σ H w σ (H.set b x) u := by
  have hlt := h.dom _ _ hb
  have hget : ∀ c, (H.set b x)[c]? = if c = b then some x else H[c]? := by
    intro c
    by_cases e : c = b
    · subst e; simp [hlt]
    · simp [e, Ne.symm e]
  have hlive : ∀ c, live (H.set b x) c → live H c := by
    intro c ⟨y, hy, hn⟩
    rw [hget] at hy
    by_cases e : c = b
    · subst e; exact hl
    · simp [e] at hy; exact ⟨y, hy, hn⟩
  refine ⟨.refl _, ⟨?_, ?_, ?_, ?_, ?_, ?_⟩, ?_, by omega, fun c B' y h1 h2 => by simp [h1] at h2, fun B' o h1 h2 => by simp [h1] at h2, by simp, ?_, ?_, hcalm⟩
  · intro c y hc; simpa using h.dom _ _ hc
  · intro c B' base' n' hc; rw [hsz]; exact h.lt _ _ _ _ hc
  · intro c y B' base' n' hy hc
    rw [hget] at hy
    by_cases e : c = b
    · subst e
      simp at hy
      subst hy
      rw [hb] at hc
      cases hc
      exact hx
    · simp [e] at hy
      cases y with
      | dead => trivial
      | _ =>
        refine blkOk_mono (.refl _) (hother B' ?_) (h.ok _ _ _ _ _ hy hc)
        rintro rfl
        exact e (h.inj c b B' _ _ ⟨_, hy, by simp⟩ hl hc hb)
  · intro c c' B' y y' h1 h2 h3 h4; exact h.inj c c' B' y y' (hlive _ h1) (hlive _ h2) h3 h4
  · intro c B' y h1 h2; exact h.sep c B' y (hlive _ h1) h2
  · intro B' o ho
    rw [hother B' ?_]
    · exact h.ro _ _ ho
    · rintro rfl
      have := h.sep b B' _ hl hb
      simp [this] at ho
  · intro B' hB hi
    refine hother B' ?_
    rintro rfl
    exact hi ⟨b, base, n, hl, hb⟩
  · intro c hc hs
    rw [hget]
    by_cases e : c = b
    · subst e; simp [hb] at hs
    · simp [e]
  · intro c hc
    rw [hget]
    by_cases e : c = b
    · subst e
      obtain ⟨y, hy, hn⟩ := hl
      rw [hc] at hy
      exact absurd (by simpa using hy.symm) hn
    · simpa [e] using hc

open Classical in
/-- What is given up can be read for ever. -/
noncomputable def Ctx.kill (σ : Ctx) (H : Heap) (w : World) (vis : List Nat) : Ctx :=
  { σ with ro := fun B => if ∃ b ∈ vis, ∃ x, live H b ∧ σ.blk b = some (B, x) then w.heap[B]? else σ.ro B }

/-- Some blocks are given up: their cells stay as they are from now on. -/
theorem Step.kill {σ : Ctx} {H : Heap} {w : World} (h : WF σ H w) (vis : List Nat) (hv : ∀ b ∈ vis, σ.blk b ≠ none) :
    Step σ H w (σ.kill H w vis) (killAll H vis) w := by
  classical
  have hget : ∀ (vis : List Nat) (H : Heap) c, (killAll H vis)[c]? = if c ∈ vis ∧ c < H.length then some .dead else H[c]? := by
    intro vis
    induction vis with
    | nil => intro H c; simp [killAll]
    | cons b r ih =>
      intro H c
      simp only [killAll]
      rw [ih]
      simp only [List.length_set, List.mem_cons]
      by_cases e : c = b
      · subst e
        by_cases hc : c < H.length
        · simp [hc]
        · simp [hc]
      · simp [e, Ne.symm e]
  have hlen : (killAll H vis).length = H.length := by
    have : ∀ (vis : List Nat) (H : Heap), (killAll H vis).length = H.length := by
      intro vis
      induction vis with
      | nil => intro H; rfl
      | cons b r ih => intro H; simp [killAll, ih]
    exact this vis H
  have hlive : ∀ c, live (killAll H vis) c → live H c ∧ c ∉ vis := by
    intro c ⟨y, hy, hn⟩
    rw [hget] at hy
    by_cases e : c ∈ vis ∧ c < H.length
    · simp [e] at hy; exact absurd hy.symm hn
    · rw [if_neg e] at hy
      have hlt : c < H.length := by
        rcases Nat.lt_or_ge c H.length with h' | h'
        · exact h'
        · simp [List.getElem?_eq_none h'] at hy
      exact ⟨⟨y, hy, hn⟩, fun hm => e ⟨hm, hlt⟩⟩
  have hle : σ.Le (σ.kill H w vis) := by
    refine ⟨fun _ _ h => h, fun B o ho => ?_⟩
    dsimp only [Ctx.kill]
    split
    · exact h.ro _ _ ho
    · exact ho
  refine ⟨hle, ⟨?_, h.lt, ?_, ?_, ?_, ?_⟩, fun _ _ _ => rfl, Nat.le_refl _, fun c B' y h1 h2 => by simp [Ctx.kill, h1] at h2, ?_, by omega, ?_, ?_, ⟨rfl, rfl⟩⟩
  · intro c y hc; rw [hlen]; exact h.dom _ _ hc
  · intro c y B' base' n' hy hc
    rw [hget] at hy
    by_cases e : c ∈ vis ∧ c < H.length
    · simp [e] at hy; subst hy; trivial
    · rw [if_neg e] at hy
      exact blkOk_mono hle rfl (h.ok _ _ _ _ _ hy hc)
  · intro c c' B' y y' h1 h2 h3 h4; exact h.inj c c' B' y y' (hlive _ h1).1 (hlive _ h2).1 h3 h4
  · intro c B' y h1 h2
    dsimp only [Ctx.kill]
    split
    · rename_i hh
      obtain ⟨b, hb, x, hlb, hsb⟩ := hh
      have := h.inj c b B' _ _ (hlive _ h1).1 hlb h2 hsb
      subst this
      exact absurd hb (hlive _ h1).2
    · exact h.sep c B' y (hlive _ h1).1 h2
  · intro B' o ho
    dsimp only [Ctx.kill] at ho
    split at ho
    · exact ho
    · exact h.ro _ _ ho
  · intro B' o h1 h2
    dsimp only [Ctx.kill] at h2
    split at h2
    · rename_i hh
      obtain ⟨b, hb, ⟨base, n⟩, hlb, hsb⟩ := hh
      exact .inr ⟨b, base, n, hlb, hsb⟩
    · simp [h1] at h2
  · intro c hc hs
    rw [hget]
    by_cases e : c ∈ vis ∧ c < H.length
    · exact absurd hs (hv c e.1)
    · rw [if_neg e]
  · intro c hc
    rw [hget]
    split
    · rfl
    · exact hc

/-- The old block is dead; a new abstract block stands for a part of the same block of the world. -/
theorem Step.renew {σ : Ctx} {H : Heap} {w u : World} (h : WF σ H w) {b B base n base' : Nat} {x : XB} (hb : σ.blk b = some (B, base, n)) (hl : live H b)
    (hx : blkOk (σ.add H.length (B, base', n)) u base' n B x) (hother : ∀ B', B' ≠ B → u.heap[B']? = w.heap[B']?) (hsz : u.heap.size = w.heap.size) (hcalm : u.os = w.os ∧ u.output = w.output := by exact ⟨rfl, rfl⟩) :
    Step σ H w (σ.add H.length (B, base', n)) (H.set b .dead ++ [x]) u ∧ (σ.add H.length (B, base', n)).blk H.length = some (B, base', n) := by
  have hlt := h.dom _ _ hb
  have hnone : σ.blk H.length = none := by
    cases hs : σ.blk H.length with
    | none => rfl
    | some y => have := h.dom _ _ hs; omega
  have hle := Ctx.le_add (x := (B, base', n)) hnone
  have hget : ∀ c, (H.set b .dead ++ [x])[c]? = if c = H.length then some x else if c = b then some .dead else H[c]? := by
    intro c
    by_cases e : c = H.length
    · subst e; simp
    · by_cases e2 : c = b
      · subst e2; rw [List.getElem?_append_left (by simpa using hlt)]; simp [hlt, e]
      · rcases Nat.lt_or_ge c H.length with h' | h'
        · rw [List.getElem?_append_left (by simpa using h')]; simp [e, e2, Ne.symm e2]
        · rw [List.getElem?_eq_none (by simp; omega)]; simp [e, e2, h']
  have hinv : ∀ c y, (σ.add H.length (B, base', n)).blk c = some y → (c = H.length ∧ y = (B, base', n)) ∨ (c < H.length ∧ σ.blk c = some y) := by
    intro c y hc
    by_cases e : c = H.length
    · subst e; left; simp [Ctx.add] at hc; exact ⟨rfl, hc.symm⟩
    · right
      simp [Ctx.add, e] at hc
      exact ⟨h.dom _ _ hc, hc⟩
  have hlive : ∀ c, c < H.length → live (H.set b .dead ++ [x]) c → live H c ∧ c ≠ b := by
    intro c hc ⟨y, hy, hn⟩
    rw [hget] at hy
    by_cases e2 : c = b
    · subst e2
      simp [Nat.ne_of_lt hc] at hy
      exact absurd hy.symm hn
    · simp [Nat.ne_of_lt hc, e2] at hy
      exact ⟨⟨y, hy, hn⟩, e2⟩
  have hBlt := h.lt _ _ _ _ hb
  refine ⟨⟨hle, ⟨?_, ?_, ?_, ?_, ?_, ?_⟩, ?_, by omega, ?_, fun B o h1 h2 => by simp [Ctx.add, h1] at h2, by simp, ?_, ?_, hcalm⟩, Ctx.add_at⟩
  · intro c y hc
    rcases hinv c y hc with ⟨rfl, _⟩ | ⟨hlt', _⟩ <;> simp; omega
  · intro c B' b' n' hc
    rw [hsz]
    rcases hinv c _ hc with ⟨_, e⟩ | ⟨_, hs⟩
    · cases e; exact hBlt
    · exact h.lt _ _ _ _ hs
  · intro c y B' b' n' hy hc
    rw [hget] at hy
    rcases hinv c _ hc with ⟨rfl, e⟩ | ⟨hlt', hs⟩
    · cases e
      simp at hy
      subst hy
      exact hx
    · simp [Nat.ne_of_lt hlt'] at hy
      by_cases e2 : c = b
      · subst e2; simp at hy; subst hy; trivial
      · simp [e2] at hy
        cases y with
        | dead => trivial
        | _ =>
          refine blkOk_mono hle (hother B' ?_) (h.ok _ _ _ _ _ hy hs)
          rintro rfl
          exact e2 (h.inj c b B' _ _ ⟨_, hy, by simp⟩ hl hs hb)
  · intro c c' B' y y' hc hc' h1 h2
    rcases hinv c _ h1 with ⟨rfl, e⟩ | ⟨hlt1, hs⟩ <;> rcases hinv c' _ h2 with ⟨rfl, e'⟩ | ⟨hlt2, hs'⟩
    · rfl
    · cases e; have := hlive _ hlt2 hc'; exact absurd (h.inj c' b _ _ _ this.1 hl hs' hb) this.2
    · cases e'; have := hlive _ hlt1 hc; exact absurd (h.inj c b _ _ _ this.1 hl hs hb) this.2
    · exact h.inj c c' B' y y' (hlive _ hlt1 hc).1 (hlive _ hlt2 hc').1 hs hs'
  · intro c B' y hc h1
    rcases hinv c _ h1 with ⟨rfl, e⟩ | ⟨hlt1, hs⟩
    · cases e; exact h.sep b _ _ hl hb
    · exact h.sep c B' y (hlive _ hlt1 hc).1 hs
  · intro B' o ho
    have ho' : σ.ro B' = some o := ho
    rw [hother B' ?_]
    · exact h.ro _ _ ho'
    · rintro rfl
      have := h.sep b B' _ hl hb
      simp [this] at ho'
  · intro B' hB hi
    refine hother B' ?_
    rintro rfl
    exact hi ⟨b, base, n, hl, hb⟩
  · intro c B' y h1 h2
    rcases hinv c _ h2 with ⟨rfl, e⟩ | ⟨_, hs⟩
    · cases e; exact ⟨Nat.le_refl _, .inr ⟨b, base, n, hl, hb⟩⟩
    · simp [hs] at h1
  · intro c hc hs
    rw [hget]
    have e2 : c ≠ b := by rintro rfl; simp [hb] at hs
    simp [Nat.ne_of_lt hc, e2]
  · intro c hc
    rw [hget]
    have hc' : c < H.length := by
      rcases Nat.lt_or_ge c H.length with h' | h'
      · exact h'
      · simp [List.getElem?_eq_none h'] at hc
    by_cases e2 : c = b
    · subst e2; simp [Nat.ne_of_lt hc']
    · simpa [Nat.ne_of_lt hc', e2] using hc

end Go.X
namespace Go.X
open Go

/-- A constant. -/
def cV1 : Value → Option XV
  | .bool b => some (.bool b)
  | .int k n => some (.int k n)
  | .string s => some (.str s.data.toList)
  | .pointer none => some .nilp
  | .slice none 0 0 => some .nils
  | .nilFunc => some .nilf
  | .nilIface => some .nili
  | _ => none

def cVs : List Value → Option (List XV)
  | [] => some []
  | v :: r => match cV1 v, cVs r with
    | some x, some xs => some (x :: xs)
    | _, _ => none

def cV : Value → Option XV
  | .agg cs => (cVs cs.toList).map .agg
  | .tuple cs => if cs.size = 0 then some und else none
  | v => cV1 v

def cO : Operand → Option XO
  | .tmp t => some (.t t)
  | .const v => (cV v).map .c
  | .global g => some (.g g)
  | .func f => some (.c (.fn (.func f) [] []))

def cOs : List Operand → Option (List XO)
  | [] => some []
  | o :: r => match cO o, cOs r with
    | some x, some xs => some (x :: xs)
    | _, _ => none

def cOo : Option Operand → Option (Option XO)
  | none => some none
  | some o => (cO o).map some

def aggD : TypeDesc → Bool
  | .struct _ => true
  | .array _ _ => true
  | _ => false

def cZero (P : Program) (t : TypeId) : Option (List XV) :=
  match P.info? t with
  | some i => match i.zero with
    | some z => cVs z.cells.toList
    | none => none
  | none => none

/-- A type's zero, as one value. -/
def cZ1 (P : Program) (t : TypeId) : Option XV :=
  match P.info? t with
  | some i => match i.zero with
    | some z => cV z
    | none => none
  | none => none

def cSize (P : Program) (t : TypeId) : Option Nat := (P.info? t).map (·.size)
def cBytes (P : Program) (t : TypeId) : Option Nat := (P.info? t).map (·.bytes)

/-- The offsets and sizes of a struct's fields. -/
def cFields (P : Program) : List Field → Option (List (Nat × Nat))
  | [] => some []
  | f :: r => match cSize P f.type, cFields P r with
    | some s, some l => some ((f.offset, s) :: l)
    | _, _ => none

def cParts (place : Nat → Option (Nat × Nat)) : List (Nat × Operand) → Option (List (Nat × Nat × XO))
  | [] => some []
  | (i, o) :: r => match place i, cO o, cParts place r with
    | some (off, s), some x, some l => some ((off, s, x) :: l)
    | _, _, _ => none

/-- Cells that are whole numbers, bools and strings, and nothing else. -/
def flatFields (P : Program) : List Field → Nat → Option (List FK)
  | [], _ => some []
  | f :: r, n => if f.name ≠ "_" ∧ f.offset = n then
      match P.underlying f.type, flatFields P r (n + 1) with
      | some .bool, some l => some (.b :: l)
      | some (.int _), some l => some (.i :: l)
      | some .string, some l => some (.s :: l)
      | _, _ => none
    else none

def cEqK (P : Program) (t : TypeId) : Option EqK :=
  match P.underlying t with
  | some .bool => some .bool
  | some (.slice _) => some .nilS
  | some (.pointer _) => some .nilP
  | some (.func _ _ _) => some .nilF
  | some (.interface _) => some .nilI
  | some (.struct fs) => if !P.stoodInHeld t && !P.eqGuardType P.depth t then (flatFields P fs.toList 0).map .flat else none
  | _ => none

def isIntOrStr (P : Program) (t : TypeId) : Bool :=
  match P.underlying t with
  | some (.int _) => true
  | some .string => true
  | _ => false

def isPtr (P : Program) (t : TypeId) : Bool :=
  match P.underlying t with
  | some (.pointer e) => (P.info? e).isSome
  | _ => false

def isConstO : Operand → Bool
  | .const _ => true
  | _ => false

def cBuiltin (P : Program) (b : Builtin) (args : List Operand) (ts : List TypeId) : Option XOp :=
  match b, args, ts with
  | .len, [x], [t] => match P.underlying t, cO x with
    | some .string, some x => some (.len true x)
    | some (.slice _), some x => some (.len false x)
    | some (.array n _), some _ => some (.lenC n)
    | _, _ => none
  | .append, [x, y], [t, u] => match P.underlying t, P.underlying u, cO x, cO y with
    | some (.slice e), some (.slice _), some x, some y => match cSize P e, cBytes P e, cZero P e with
      | some s, some b, some z => if z.length = s then some (.append false s b e x y) else none
      | _, _, _ => none
    | some (.slice e), some .string, some x, some y => match cSize P e, cBytes P e, cZero P e with
      | some s, some b, some z => if s = 1 ∧ z.length = s then some (.append true s b e x y) else none
      | _, _, _ => none
    | _, _, _, _ => none
  | .unsafeSliceData, [x], _ => (cO x).map .sdata
  | .unsafeString, [x, n], [t, _] => match P.underlying t, cO x, cO n with
    | some (.pointer e), some x, some n => if P.cellsOf e = 1 then some (.ustr e x n) else none
    | _, _, _ => none
  | .max, xs, _ => (cOs xs).map .max
  | .min, xs, _ => (cOs xs).map .min
  | _, _, _ => none

/-- Where a variable of type u lies at the head of a row: rows' types, and how long they are. -/
def liesL (P : Program) (u : Nat) : List (Nat × Nat) :=
  (List.range P.types.size).filterMap fun t => if (P.info? u).isSome && liesAt P P.depth t (P.cellsOf t / P.cellsOf t) 0 u 1 then some (t, P.cellsOf t) else none

/-- The library's way to hide a pointer from the compiler: it is as it was. -/
def noEsc (P : Program) (f : Operand) (args : List Operand) : Option XO :=
  match f, args with
  | .func g, [x] => match P.funcs[g]? with
    | some fn => if fn.name = "internal/abi.NoEscape" ∧ fn.body.isNone = true ∧ (Extern.findNext fn).isNone = true then cO x else none
    | none => none
  | _, _ => none

def cOp (P : Program) (o : Op) : Option XOp :=
  match o with
  | .move x => (cO x).map .mv
  | .assign x => (cO x).map .mv
  | .pick c a b => match cO c, cO a, cO b with
    | some c, some a, some b => some (.pick c a b)
    | _, _, _ => none
  | .alloc t => (cZero P t).map (.alloc t)
  | .box t x => (cO x).map (.box t)
  | .build t parts => match P.underlying t, cZero P t with
    | some (.struct fs), some z => match cFields P fs.toList with
      | some l => (cParts (l[·]?) parts.toList).map (.build z)
      | none => none
    | some (.array _ e), some z => match cSize P e with
      | some s => (cParts (fun i => some (i * s, s)) parts.toList).map (.build z)
      | none => none
    | _, _ => none
  | .buildSlice t len parts => match P.underlying t with
    | some (.slice e) => match cSize P e, cZero P e with
      | some s, some z => if len * s ≤ 2 ^ 24 ∧ z.length = s then (cParts (fun i => some (i * s, s)) parts.toList).map (.bslice s len z) else none
      | _, _ => none
    | _ => none
  | .load t a => match P.underlying t, cO a with
    | some d, some x => if aggD d then (cSize P t).map fun s => .load s true x else some (.load 1 false x)
    | _, _ => none
  | .store t a v => match cSize P t, cO a, cO v with
    | some s, some x, some y => some (.store s x y)
    | _, _, _ => none
  | .nilCheck x => (cO x).map .nilc
  | .binOp op t x y _ => match cO x, cO y with
    | some a, some b =>
      if isIntOrStr P t then some (.bin op a b)
      else if isPtr P t && !isConstO x && !isConstO y then (match op with
        | .eql => some (.eqP false a b)
        | .neq => some (.eqP true a b)
        | _ => none)
      else match op, cEqK P t with
        | .eql, some k => if k = .nilI && !isConstO x && !isConstO y then none else some (.eq false k a b)
        | .neq, some k => if k = .nilI && !isConstO x && !isConstO y then none else some (.eq true k a b)
        | _, _ => none
    | _, _ => none
  | .unOp op _ x => (cO x).map (.un op)
  | .convert s d x => match P.underlying s, P.underlying d, cO x with
    | some _, some (.int k), some x => some (.convI k x)
    | some .string, some .string, some x => some (.convS x)
    | some (.slice e), some .string, some x => match P.underlying e with
      | some (.int .u8) => some (.convB x)
      | _ => none
    | some .string, some (.slice e), some x => match P.underlying e with
      | some (.int .u8) => some (.convBs x)
      | _ => none
    | some (.pointer t), some .unsafePointer, some x => match P.info? t with
      | some j => if j.size = 0 then none else some (.toU x)
      | none => none
    | some .unsafePointer, some (.pointer u), some x => some (.fromU (liesL P u) x)
    | _, _, _ => none
  | .makeInterface t x => match P.underlying t, cO x with
    | some (.interface _), _ => none
    | some _, some x => some (.mkif t x)
    | _, _ => none
  | .makeFunc f a b => match cOs a.toList, cOs b.toList with
    | some a, some b => some (.mkfn f a b)
    | _, _ => none
  | .slice t x lo hi none => match P.underlying t, cO x, cOo lo, cOo hi with
    | some .string, some x, some lo, some hi => some (.slice true 0 x lo hi)
    | some (.slice e), some x, some lo, some hi => (cSize P e).map fun s => .slice false s x lo hi
    | some (.array n e), some x, some lo, some hi => (cSize P e).map fun s => .sliceA n s x lo hi
    | _, _, _, _ => none
  | .fieldAddr t x f => match P.underlying t, cO x with
    | some (.struct fs), some x => match fs[f]? with
      | some fd => match cSize P fd.type with
        | some s => if s = 0 then none else some (.faddr fd.offset x)
        | none => none
      | none => none
    | _, _ => none
  | .field t x f => match P.underlying t, cO x with
    | some (.struct fs), some x => match fs[f]? with
      | some fd => match P.underlying fd.type, cSize P fd.type with
        | some d, some s => some (if aggD d then .field fd.offset s true x else .field fd.offset 1 false x)
        | _, _ => none
      | none => none
    | _, _ => none
  | .indexAddr t x i => match P.underlying t, cO x, cO i with
    | some (.slice e), some x, some i => (cSize P e).map fun s => .iaddr s x i
    | some (.array n e), some x, some i => (cSize P e).map fun s => .iaddrA n s x i
    | _, _, _ => none
  | .index t x i => match P.underlying t, cO x, cO i with
    | some .string, some x, some i => some (.idxS x i)
    | some (.array n e), some x, some i => match P.underlying e, cSize P e with
      | some d, some s => if aggD d then some (.idxA n s true x i) else if s = 1 then some (.idxA n 1 false x i) else none
      | _, _ => none
    | _, _, _ => none
  | .extract x i => (cO x).map (.extract · i)
  | .makeSlice t l c => match P.underlying t, cO l, cO c with
    | some (.slice e), some l, some c => match cSize P e, cBytes P e, cZero P e with
      | some s, some b, some z => if z.length = s then some (.makeS s b z l c) else none
      | _, _, _ => none
    | _, _, _ => none
  | .makeMap t r => match r with
    | none => match P.underlying t with
      | some (.map k _) => match P.underlying k with
        | some .string => some .makeM
        | _ => none
      | _ => none
    | some (.const (.int _ _)) => match P.underlying t with
      | some (.map k _) => match P.underlying k with
        | some .string => some .makeM
        | _ => none
      | _ => none
    | some _ => none
  | .insert t m k v => match P.underlying t, cO m, cO k, cO v with
    | some (.map kt _), some m, some k, some v => match P.underlying kt with
      | some .string => some (.insert m k v)
      | _ => none
    | _, _, _, _ => none
  | .lookup t m k ok => match P.underlying t, cO m, cO k with
    | some (.map kt e), some m, some k => match P.underlying kt, cZ1 P e with
      | some .string, some z => some (.lookup z ok m k)
      | _, _ => none
    | _, _, _ => none
  | .range t x => match P.underlying t, cO x with
    | some .string, some x => some (.range x)
    | _, _ => none
  | .next x true => (cO x).map .next
  | .typeAssert x _ t ok => match P.underlying t, cO x with
    | some (.interface _), _ => none
    | some _, some x => (cZ1 P t).map fun z => .tassert t z ok x
    | _, _ => none
  | .panic x => (cO x).map .panic
  | .call c => match c.callee with
    | .value f => match noEsc P f c.args.toList with
      | some x => some (.mv x)
      | none => match cO f, cOs c.args.toList with
        | some f, some xs => some (.call f xs)
        | _, _ => none
    | .builtin b => cBuiltin P b c.args.toList c.argTypes.toList
    | .invoke _ _ => none
  | .defer c => match c.callee with
    | .value f => match cO f, cOs c.args.toList with
      | some f, some xs => some (.defer f xs)
      | _, _ => none
    | _ => none
  | _ => none

def cOper (P : Program) (ops : Array Oper) (o : Oper) : Option XOper :=
  match cOp P o.op with
  | some x => match o.guard with
    | none => some ⟨o.dst, x, none⟩
    | some (j, b) => match (ops[j]?).bind (·.dst) with
      | some t => some ⟨o.dst, x, some (t, b)⟩
      | none => none
  | none => none

def cOpers (P : Program) (ops : Array Oper) : List Oper → Option (List XOper)
  | [] => some []
  | o :: r => match cOper P ops o, cOpers P ops r with
    | some x, some xs => some (x :: xs)
    | _, _ => none

/-- What each operation waits for, whatever the order. -/
def dirsOf (ops : Array Oper) : List (List Nat) := ops.toList.map fun o => (o.after.toList.filter (Region.binds .any)).map (·.on)

def cCode (P : Program) : Code → Option XC
  | .skip => some .skip
  | .region _ ops draw => match cOpers P ops ops.toList with
    | some l => if draw then (let dirs := dirsOf ops
      let cl := closL dirs []
      if statOk l cl && backOk dirs then some (.regionD l cl) else none) else some (.region l)
    | none => none
  | .seq a b => match cCode P a, cCode P b with
    | some x, some y => some (.seq x y)
    | _, _ => none
  | .cond c a b => match cO c, cCode P a, cCode P b with
    | some c, some x, some y => some (.cond c x y)
    | _, _, _ => none
  | .block id c => (cCode P c).map (.block id)
  | .loop c => (cCode P c).map .loop
  | .exit id => some (.exit id)
  | .ret => some .ret
  | .refuse _ => some .stuck
  | _ => none

def cRes (P : Program) : List ResultVar → Option (List XRes)
  | [] => some []
  | .tmp t :: r => (cRes P r).map (.t t :: ·)
  | .cell a t :: r => match P.underlying t, cSize P t, cRes P r with
    | some d, some s, some l => some ((if aggD d then .c a s true else .c a 1 false) :: l)
    | _, _, _ => none

def cFunc (P : Program) (f : FuncId) : Option XF :=
  match P.funcs[f]? with
  | some fn => match fn.body, cRes P fn.results.toList with
    | some c, some res => if fn.name == "runtime.NumGoroutine" then none else (cCode P c).map fun b => ⟨fn.ntmps, res, b⟩
    | _, _ => none
  | none => none

end Go.X
namespace Go.X
open Go

theorem relL_tmps {σ : Ctx} {T : List XV} {a : Act} (h : relL σ T a.tmps.toList) (t : Nat) : rel σ (T.getD t und) (a.tmps.getD t undef) := by
  cases hx : T[t]? with
  | none =>
    have := relL_none h hx
    have h1 : a.tmps[t]? = none := by simpa using this
    simp only [List.getD_eq_getElem?_getD, hx, Option.getD_none]
    rw [show a.tmps.getD t undef = (a.tmps[t]?).getD undef by simp [Array.getD_eq_getD_getElem?], h1]
    exact ⟨#[], rfl, by simp [relL]⟩
  | some x =>
    obtain ⟨v, hv, hr⟩ := relL_get t h hx
    have h1 : a.tmps[t]? = some v := by simpa using hv
    simp only [List.getD_eq_getElem?_getD, hx, Option.getD_some]
    rw [show a.tmps.getD t undef = (a.tmps[t]?).getD undef by simp [Array.getD_eq_getD_getElem?], h1]
    exact hr

theorem rel_str {σ : Ctx} (s : ByteArray) : rel σ (.str s.data.toList) (.string s) := by
  simp [rel]

theorem rel_cV1 {σ : Ctx} {v : Value} {x : XV} (h : cV1 v = some x) : rel σ x v := by
  unfold cV1 at h
  split at h <;> first
    | (cases h; simp [rel]; done)
    | cases h

theorem rel_cVs {σ : Ctx} : ∀ {vs : List Value} {xs : List XV}, cVs vs = some xs → relL σ xs vs
  | [], xs, h => by simp [cVs] at h; subst h; simp [relL]
  | v :: r, xs, h => by
    simp only [cVs] at h
    split at h
    · rename_i x ys h1 h2
      cases h
      exact relL_cons (rel_cV1 h1) (rel_cVs h2)
    · cases h

theorem rel_cV {σ : Ctx} {v : Value} {x : XV} (h : cV v = some x) : rel σ x v := by
  unfold cV at h
  split at h
  · rename_i cs
    cases h1 : cVs cs.toList with
    | none => simp [h1] at h
    | some xs => simp [h1] at h; subst h; exact ⟨cs, rfl, rel_cVs h1⟩
  · rename_i cs
    split at h
    · rename_i hs
      cases h
      have : cs = #[] := by simpa using hs
      subst this
      exact ⟨#[], rfl, by simp [relL]⟩
    · cases h
  · exact rel_cV1 h

/-- The tables that are read through a package's variables. -/
def globOk (E : Env) (σ : Ctx) : Prop := ∀ g cs, E.glob g = some cs → ∃ C e fr, σ.ro g = some (.cells C e fr) ∧ cs.length ≤ C.size ∧ relL σ.pure cs (C.toList.take cs.length)

theorem globOk.mono {E : Env} {σ τ : Ctx} (h : globOk E σ) (hl : σ.Le τ) : globOk E τ := fun g cs hg =>
  let ⟨C, e, fr, h1, h2, h3⟩ := h g cs hg
  ⟨C, e, fr, hl.ro _ _ h1, h2, relL_mono hl.pure h3⟩

theorem rel_ev {E : Env} {σ : Ctx} {T : List XV} {a : Act} (hg : globOk E σ) (hT : relL σ T a.tmps.toList) {o : Operand} {x : XO} (h : cO o = some x) :
    rel σ (ev E T x) (a.eval o) := by
  unfold cO at h
  split at h
  · cases h; exact relL_tmps hT _
  · rename_i v
    cases h1 : cV v with
    | none => simp [h1] at h
    | some y => simp [h1] at h; subst h; exact rel_cV h1
  · rename_i g
    cases h
    simp only [ev]
    cases hh : E.glob g with
    | none => exact ⟨g, rfl⟩
    | some cs =>
      obtain ⟨C, e, fr, h1, h2, h3⟩ := hg g cs hh
      exact ⟨g, 0, rfl, .inr ⟨C, e, fr, h1, by omega, by simpa using h3⟩⟩
  · cases h; exact ⟨#[], #[], rfl, by simp [relL], by simp [relL]⟩


theorem relL_evs {E : Env} {σ : Ctx} {T : List XV} {a : Act} (hg : globOk E σ) (hT : relL σ T a.tmps.toList) : ∀ {os : List Operand} {xs : List XO}, cOs os = some xs → relL σ (xs.map (ev E T)) (os.map a.eval)
  | [], xs, h => by simp [cOs] at h; subst h; simp [relL]
  | o :: r, xs, h => by
    simp only [cOs] at h
    split at h
    · rename_i x ys h1 h2
      cases h
      exact relL_cons (rel_ev hg hT h1) (relL_evs hg hT h2)
    · cases h

/-! ### what a related value is -/
section inv
variable {σ : Ctx} {v : Value}
theorem rel_bool {b} (h : rel σ (.bool b) v) : v = .bool b := h
theorem rel_int {k n} (h : rel σ (.int k n) v) : v = .int k n := h
theorem rel_strv {s} (h : rel σ (.str s) v) : v = .string ⟨s.toArray⟩ := h
end inv

theorem cells_agg (cs : Array Value) : (Value.agg cs).cells = cs := rfl

/-- A value's cells. -/
theorem rel_cells {σ : Ctx} {x : XV} {v : Value} (h : rel σ x v) : relL σ (cellsOf x) v.cells.toList := by
  cases x with
  | agg cs => obtain ⟨cs', rfl, h'⟩ := h; exact h'
  | bool b => obtain rfl := h; exact relL_one rfl
  | int k n => obtain rfl := h; exact relL_one rfl
  | str s => obtain rfl := h; exact relL_one rfl
  | nilp => obtain rfl := h; exact relL_one rfl
  | nils => obtain rfl := h; exact relL_one rfl
  | nilf => obtain rfl := h; exact relL_one rfl
  | nili => obtain rfl := h; exact relL_one rfl
  | ptr b off => have h2 := h; obtain ⟨B, base, n, _, rfl⟩ := h; exact relL_one h2
  | vp cs => have h2 := h; obtain ⟨B, off, rfl, _⟩ := h; exact relL_one h2
  | sl b off len esz => have h2 := h; obtain ⟨B, base, n, _, o, cap, rfl, _⟩ := h; exact relL_one h2
  | vs len cs => have h2 := h; rcases h with ⟨B, off, cap, rfl, _⟩ | ⟨rfl, rfl, a, cap, rfl⟩ <;> exact relL_one h2
  | fn f a b => have h2 := h; obtain ⟨a', b', rfl, _⟩ := h; exact relL_one h2
  | iface t x => have h2 := h; obtain ⟨x', rfl, _⟩ := h; exact relL_one h2
  | tup cs => have h2 := h; obtain ⟨cs', rfl, _⟩ := h; exact relL_one h2
  | mp b => have h2 := h; obtain ⟨B, base, n, _, rfl⟩ := h; exact relL_one h2
  | bad => have h2 := h; obtain ⟨g, rfl⟩ := h; exact relL_one h2

theorem rel_oneCell {σ : Ctx} {x : XV} {v : Value} (h : rel σ x v) (ho : oneCell x = true) : v.oneCell' = true := by
  cases x <;> simp only [oneCell] at ho <;> first
    | (exact absurd ho (by decide))
    | (obtain rfl := h; rfl)
    | (obtain ⟨_, _, _, _, rfl⟩ := h; rfl)
    | (obtain ⟨_, _, rfl, _⟩ := h; rfl)
    | (obtain ⟨_, _, _, _, _, _, rfl, _⟩ := h; rfl)
    | (rcases h with ⟨_, _, _, rfl, _⟩ | ⟨rfl, _, _, _, rfl⟩ <;> rfl; done)
    | (obtain ⟨_, _, _, rfl, _⟩ := h; rfl; done)
    | (obtain ⟨_, rfl, _⟩ := h; rfl)

/-! ### reading cells -/

theorem add_none (B o i : Nat) : (⟨B, o, none⟩ : Addr).add i = ⟨B, o + i, none⟩ := by unfold Addr.add; split <;> simp_all

theorem run_loadCells_at {P : Program} {w : World} {B o n : Nat} {C : Array Value} {e : TypeId} {fr : Nat × Nat} (h : w.heap[B]? = some (.cells C e fr)) (hn : o + n ≤ C.size) :
    (loadCells ⟨B, o, none⟩ n).run P w = .ok ((C.toList.drop o).take n).toArray w := by
  have hl : ((C.toList.drop o).take n).length = n := by simp; omega
  have := run_loadCells_list (P := P) w ⟨B, o, none⟩ ((C.toList.drop o).take n) (fun j v hj => by
    rw [add_none]
    simp only [World.cell?, h]
    rw [List.getElem?_take] at hj
    split at hj
    · simpa using hj
    · cases hj)
  rwa [hl] at this

theorem relL_at {σ : Ctx} {cs : List XV} {C : Array Value} {base off n : Nat} (h : relL σ cs ((C.toList.drop base).take cs.length)) (hn : off + n ≤ cs.length) :
    relL σ ((cs.drop off).take n) ((C.toList.drop (base + off)).take n) := by
  have := relL_take n (relL_drop off h)
  rw [List.drop_take, List.drop_drop, List.take_take] at this
  rwa [Nat.min_eq_left (by omega)] at this

theorem one_cases {cs : List XV} {a : Bool} {v : XV} (h : one cs a = some v) : (a = true ∧ v = .agg cs) ∨ (a = false ∧ cs = [v]) := by
  unfold one at h
  split at h
  · rename_i ha; cases h; exact .inl ⟨ha, rfl⟩
  · rename_i ha
    split at h
    · cases h; exact .inr ⟨by simpa using ha, rfl⟩
    · cases h

theorem takeAt_eq {cs : List XV} {off n : Nat} {r : List XV} (h : takeAt cs off n = some r) : off + n ≤ cs.length ∧ r = (cs.drop off).take n := by
  unfold takeAt at h
  split at h
  · rename_i hh; cases h; exact ⟨hh, rfl⟩
  · cases h

theorem run_isAgg {P : Program} {t : TypeId} {d : TypeDesc} (h : P.underlying t = some d) (w : World) : (isAgg t).run P w = .ok (aggD d) w := by
  simp [isAgg, run_underlying h]
  cases d <;> simp [aggD]

theorem run_size {P : Program} {t : TypeId} {s : Nat} (h : cSize P t = some s) (w : World) : (sizeOf t).run P w = .ok s w := by
  unfold cSize at h
  cases hi : P.info? t with
  | none => simp [hi] at h
  | some i => simp [hi] at h; simp [sizeOf, typeInfo, hi, h]

/-- A load out of a block whose cells are known. -/
theorem run_loadVar {P : Program} {σ : Ctx} {w : World} {t : TypeId} {d : TypeDesc} (hd : P.underlying t = some d) {sz : Nat} {a : Bool}
    (hs : (aggD d = true ∧ a = true ∧ cSize P t = some sz) ∨ (aggD d = false ∧ a = false ∧ sz = 1))
    {B base : Nat} {C : Array Value} {e : TypeId} {fr : Nat × Nat} (hB : w.heap[B]? = some (.cells C e fr)) {cs : List XV} (hle : base + cs.length ≤ C.size)
    (hr : relL σ cs ((C.toList.drop base).take cs.length)) {off : Nat} {v : XV} (hv : (takeAt cs off sz).bind (one · a) = some v) :
    ∃ v', (loadVar t ⟨B, base + off, none⟩).run P w = .ok v' w ∧ rel σ v v' := by
  cases ht : takeAt cs off sz with
  | none => simp [ht] at hv
  | some r =>
    simp [ht] at hv
    obtain ⟨h1, rfl⟩ := takeAt_eq ht
    have hrr := relL_at hr h1
    rcases hs with ⟨had, rfl, hsz⟩ | ⟨had, rfl, rfl⟩
    · rcases one_cases hv with ⟨_, rfl⟩ | ⟨h', _⟩
      · refine ⟨.agg ((C.toList.drop (base + off)).take sz).toArray, ?_, ⟨_, rfl, by simpa using hrr⟩⟩
        simp only [loadVar, Sem.run_bind, run_isAgg hd, Result.andThen_ok, had, if_true, run_size hsz, run_loadCells_at hB (show base + off + sz ≤ C.size by omega), Sem.run_pure]
      · cases h'
    · rcases one_cases hv with ⟨h', _⟩ | ⟨_, he⟩
      · cases h'
      · rw [he] at hrr
        simp only [relL] at hrr
        obtain ⟨u, r, hu, hx, hr2⟩ := hrr
        subst hr2
        refine ⟨u, ?_, hx⟩
        have hc : w.cell? ⟨B, base + off, none⟩ = some u := by
          simp only [World.cell?, hB]
          have : ((C.toList.drop (base + off)).take 1)[0]? = some u := by rw [hu]; rfl
          simpa using this
        simp [loadVar, run_isAgg hd, had, hc]

end Go.X
namespace Go.X
open Go

/-- The program's operation comes to a value (a store: to nothing) and to a world. -/
def Runs (P : Program) (o : Oper) (a : Act) (w : World) (v : Value) (u : World) : Prop :=
  (execOp a.eval o).run P w = .ok (.value v) u ∨ ((execOp a.eval o).run P w = .ok .skip u ∧ v = undef)

def OpRes (P : Program) (o : Oper) (a : Act) (σ : Ctx) (H : Heap) (w : World) (v : XV) (K : Heap) : Prop :=
  ∃ v' u τ, Runs P o a w v' u ∧ rel τ v v' ∧ Step σ H w τ K u

section
variable {P : Program} {E : Env} {σ : Ctx} {T : List XV} {H : Heap} {a : Act} {w : World} {o : Oper}

/-- Nothing moves. -/
theorem OpRes.still {v : XV} {v' : Value} (h : WF σ H w) (hr : (execOp a.eval o).run P w = .ok (.value v') w) (hv : rel σ v v') : OpRes P o a σ H w v H :=
  ⟨v', w, σ, .inl hr, hv, .refl h⟩

theorem live_of {b : Nat} {x : XB} (h : H[b]? = some x) (hx : x ≠ .dead) : live H b := ⟨x, h, hx⟩

theorem cellsAt_live {b : Nat} {cs : List XV} (h : cellsAt H b = some cs) : live H b := by
  unfold cellsAt at h
  split at h
  · rename_i c hc; exact ⟨_, hc, by simp⟩
  · rename_i c t f hc; exact ⟨_, hc, by simp⟩
  · cases h

theorem WF.cells (h : WF σ H w) {b : Nat} {cs : List XV} (hc : cellsAt H b = some cs) {B base n : Nat} (hb : σ.blk b = some (B, base, n)) :
    ∃ C e fr, w.heap[B]? = some (.cells C e fr) ∧ C.size = n ∧ free fr n ∧ base + cs.length ≤ n ∧ relL σ cs ((C.toList.drop base).take cs.length) := by
  unfold cellsAt at hc
  split at hc
  · rename_i c hx; cases hc; exact h.ok b _ B base n hx hb
  · rename_i c t f hx; cases hc; exact (h.ok b _ B base n hx hb).1
  · cases hc

theorem blkOk_setCs (h : WF σ H w) {b : Nat} {cs cs' : List XV} (hc : cellsAt H b = some cs) {B base n : Nat} (hb : σ.blk b = some (B, base, n)) (hl : cs'.length = cs.length) {u : World}
    (hB : ∀ C e fr, w.heap[B]? = some (.cells C e fr) → ∃ C' fr', u.heap[B]? = some (.cells C' e fr')) (hx : blkOk σ u base n B (.cells cs')) : blkOk σ u base n B (setCs H b cs') := by
  unfold setCs
  split
  · rename_i c t f hx'
    obtain ⟨_, ⟨C, fr, hC⟩, h3⟩ := h.ok b _ B base n hx' hb
    simp [cellsAt, hx'] at hc
    subst hc
    refine ⟨hx, hB _ _ _ hC, fun hf => ?_⟩
    rw [hl]
    exact h3 hf
  · exact hx

theorem retag_cases (H : Heap) (b ty : Nat) (cs : List XV) : retag H b ty cs = .cells cs ∨ (retag H b ty cs = .tcells cs ty false ∧ ∃ cs' f, H[b]? = some (.tcells cs' ty f)) := by
  unfold retag
  split
  · rename_i c t f hx
    split
    · rename_i e; subst e; exact .inr ⟨rfl, _, _, hx⟩
    · exact .inl rfl
  · exact .inl rfl

theorem blkOk_retag (h : WF σ H w) {b ty : Nat} {cs' : List XV} {B base n : Nat} (hb : σ.blk b = some (B, base, n)) {τ : Ctx} {u : World} {base' : Nat}
    (hB : ∀ C e fr, w.heap[B]? = some (.cells C e fr) → ∃ C' fr', u.heap[B]? = some (.cells C' e fr')) (hx : blkOk τ u base' n B (.cells cs')) : blkOk τ u base' n B (retag H b ty cs') := by
  rcases retag_cases H b ty cs' with h1 | ⟨h1, c, f, h2⟩
  · rw [h1]; exact hx
  · rw [h1]
    obtain ⟨_, ⟨C, fr, hC⟩, _⟩ := h.ok b _ B base n h2 hb
    exact ⟨hx, hB _ _ _ hC, fun hf => by cases hf⟩

/-- A new row of cells. -/
theorem newResT (h : WF σ H w) {xs : List XV} {C : Array Value} {e : TypeId} {u : World} (hu : u.heap = w.heap.push (.cells C e (0, 0))) (hle : xs.length ≤ C.size)
    (hr : relL σ xs (C.toList.take xs.length)) {x : XB} (hx : x = .cells xs ∨ ∃ f, x = .tcells xs e f ∧ (f = true → xs.length = C.size)) (hcalm : u.os = w.os ∧ u.output = w.output := by exact ⟨rfl, rfl⟩) :
    Step σ H w (σ.add H.length (w.heap.size, 0, C.size)) (H ++ [x]) u ∧ (σ.add H.length (w.heap.size, 0, C.size)).blk H.length = some (w.heap.size, 0, C.size) ∧ σ.blk H.length = none := by
  have hnone : σ.blk H.length = none := by
    cases hb : σ.blk H.length with
    | none => rfl
    | some y => have := h.dom _ _ hb; omega
  have hcells : ∀ u' : World, u'.heap[w.heap.size]? = some (.cells C e (0, 0)) → blkOk (σ.add H.length (w.heap.size, 0, C.size)) u' 0 C.size w.heap.size (.cells xs) := fun u' hu' =>
    ⟨C, e, (0, 0), hu', rfl, .inl (Nat.le_refl _), by omega, by simpa using relL_mono (Ctx.le_add hnone) hr⟩
  obtain ⟨h1, h2⟩ := Step.alloc (n := C.size) (o := .cells C e (0, 0)) (x := x) h (fun u' hu' => by
    rcases hx with rfl | ⟨f, rfl, hf⟩
    · exact hcells u' hu'
    · exact ⟨hcells u' hu', ⟨C, _, hu'⟩, fun h' => ⟨rfl, hf h'⟩⟩) u hu hcalm
  exact ⟨h1, h2, hnone⟩

/-- The same, with no mark. -/
theorem newRes (h : WF σ H w) {xs : List XV} {C : Array Value} {e : TypeId} {u : World} (hu : u.heap = w.heap.push (.cells C e (0, 0))) (hle : xs.length ≤ C.size)
    (hr : relL σ xs (C.toList.take xs.length)) (hcalm : u.os = w.os ∧ u.output = w.output := by exact ⟨rfl, rfl⟩) :
    Step σ H w (σ.add H.length (w.heap.size, 0, C.size)) (H ++ [.cells xs]) u ∧ (σ.add H.length (w.heap.size, 0, C.size)).blk H.length = some (w.heap.size, 0, C.size) ∧ σ.blk H.length = none :=
  newResT h hu hle hr (.inl rfl) hcalm

theorem boxRes (h : WF σ H w) {xs : List XV} {C : Array Value} {e : TypeId} (hr : relL σ xs C.toList) (hrun : (execOp a.eval o).run P w = .ok (.value (.pointer (some ⟨w.heap.size, 0, none⟩))) (w.alloc (.cells C e (0, 0)))) :
    OpRes P o a σ H w (.ptr H.length 0) (H ++ [.tcells xs e true]) := by
  have hl : C.size = xs.length := by simpa using relL_length hr
  obtain ⟨h1, h2, _⟩ := newResT (u := w.alloc (.cells C e (0, 0))) h rfl (by omega) (xs := xs) (C := C) (e := e) (by rw [List.take_of_length_le (by simp; omega)]; exact hr) (x := .tcells xs e true) (.inr ⟨true, rfl, fun _ => by omega⟩)
  exact ⟨_, _, _, .inl hrun, ⟨_, _, _, h2, by simp⟩, h1⟩

theorem op_move (h : WF σ H w) (hg : globOk E σ) (hT : relL σ T a.tmps.toList) {x : Operand} {y : XO} (ho : o.op = .move x ∨ o.op = .assign x) (hx : cO x = some y) :
    OpRes P o a σ H w (ev E T y) H :=
  .still h (by rcases ho with ho | ho <;> simp [execOp, ho]) (rel_ev hg hT hx)

theorem op_box (h : WF σ H w) (hg : globOk E σ) (hT : relL σ T a.tmps.toList) {x : Operand} {y : XO} {t : TypeId} (ho : o.op = .box t x) (hx : cO x = some y) :
    OpRes P o a σ H w (.ptr H.length 0) (H ++ [.tcells (cellsOf (ev E T y)) t true]) :=
  boxRes (C := (a.eval x).cells) (e := t) h (rel_cells (rel_ev hg hT hx)) (by simp [execOp, ho, Instr.box, newVar, newRow])

theorem run_zero {t : TypeId} {z : List XV} (hz : cZero P t = some z) (w : World) : ∃ zv, (zeroValue t).run P w = .ok zv w ∧ ∀ σ, relL σ z zv.cells.toList := by
  unfold cZero at hz
  split at hz
  · rename_i i hi
    split at hz
    · rename_i zv hzv
      exact ⟨zv, by simp [zeroValue, typeInfo, hi, hzv], fun σ => rel_cVs hz⟩
    · cases hz
  · cases hz

theorem op_alloc (h : WF σ H w) {t : TypeId} {z : List XV} (ho : o.op = .alloc t) (hz : cZero P t = some z) :
    OpRes P o a σ H w (.ptr H.length 0) (H ++ [.tcells z t true]) := by
  obtain ⟨zv, h1, h2⟩ := run_zero (P := P) hz w
  exact boxRes (C := zv.cells) (e := t) h (h2 σ) (by simp [execOp, ho, Instr.alloc, h1, newVar, newRow])

theorem op_load (h : WF σ H w) (hg : globOk E σ) (hT : relL σ T a.tmps.toList) {x : Operand} {y : XO} {t : TypeId} {d : TypeDesc} {sz : Nat} {ag : Bool} (ho : o.op = .load t x) (hx : cO x = some y)
    (hd : P.underlying t = some d) (hs : (aggD d = true ∧ ag = true ∧ cSize P t = some sz) ∨ (aggD d = false ∧ ag = false ∧ sz = 1)) {v : XV} {K : Heap}
    {call : CallF} (hv : xop E call (.load sz ag y) T H = some (.val v K)) : OpRes P o a σ H w v K := by
  have hr := rel_ev hg hT hx
  simp only [xop] at hv
  generalize ev E T y = p at hv hr
  cases p <;> simp only [reduceCtorEq] at hv
  · rename_i b off
    obtain ⟨B, base, n, hb, he⟩ := hr
    split at hv
    · rename_i cs hcs
      obtain ⟨C, e, fr, hB, hn, _, hle, hrel⟩ := h.cells hcs hb
      cases hq : (takeAt cs off sz).bind (one · ag) with
      | none => simp [okv, hq] at hv
      | some q =>
        simp [okv, hq] at hv
        obtain ⟨rfl, rfl⟩ := hv
        obtain ⟨v', hrun, hv'⟩ := run_loadVar hd hs hB (by omega) hrel hq
        exact .still h (by simp [execOp, ho, he, Instr.loadAt, Instr.sureAddr, hrun]) hv'
    · cases hv
  · rename_i cs
    obtain ⟨B, off, he, hc⟩ := hr
    cases hq : (takeAt cs 0 sz).bind (one · ag) with
    | none => simp [okv, hq] at hv
    | some q =>
      simp [okv, hq] at hv
      obtain ⟨rfl, rfl⟩ := hv
      rcases hc with rfl | ⟨C, e, fr, hro, hle, hrel⟩
      · cases ht : takeAt [] 0 sz with
        | none => simp [ht] at hq
        | some r =>
          simp [ht] at hq
          obtain ⟨h1, rfl⟩ := takeAt_eq ht
          simp at h1
          subst h1
          rcases one_cases hq with ⟨h2, rfl⟩ | ⟨_, h3⟩
          · rcases hs with ⟨had, _, hsz⟩ | ⟨_, h4, _⟩
            · exact .still h (v' := .agg #[]) (by simp [execOp, ho, he, Instr.loadAt, Instr.sureAddr, loadVar, run_isAgg hd, had, run_size hsz, loadCells, loadCellsFrom]) ⟨#[], rfl, by simp [relL]⟩
            · simp [h2] at h4
          · simp at h3
      · obtain ⟨v', hrun, hv'⟩ := run_loadVar (off := 0) hd hs (h.ro _ _ hro) hle hrel hq
        rw [Nat.add_zero] at hrun
        exact .still h (by simp [execOp, ho, he, Instr.loadAt, Instr.sureAddr, hrun]) (rel_mono σ.pure_le hv')


theorem op_pick (h : WF σ H w) (hg : globOk E σ) (hT : relL σ T a.tmps.toList) {c x y : Operand} {c' x' y' : XO} (ho : o.op = .pick c x y) (hc : cO c = some c') (hx : cO x = some x') (hy : cO y = some y')
    {v : XV} {K : Heap} {call : CallF} (hv : xop E call (.pick c' x' y') T H = some (.val v K)) : OpRes P o a σ H w v K := by
  have hr := rel_ev hg hT hc
  simp only [xop] at hv
  generalize ev E T c' = p at hv hr
  cases p <;> simp only [reduceCtorEq] at hv
  rename_i t
  simp at hv
  obtain ⟨rfl, rfl⟩ := hv
  refine .still h (v' := if t then a.eval x else a.eval y) (by simp [execOp, ho, rel_bool hr, asBool]) ?_
  cases t
  · simpa using rel_ev hg hT hy
  · simpa using rel_ev hg hT hx

theorem op_faddr (h : WF σ H w) (hg : globOk E σ) (hT : relL σ T a.tmps.toList) {t : TypeId} {x : Operand} {f : Nat} {y : XO} (ho : o.op = .fieldAddr t x f) (hx : cO x = some y)
    {fs : Array Field} {fd : Field} {s : Nat} (hd : P.underlying t = some (.struct fs)) (hf : fs[f]? = some fd) (hs : cSize P fd.type = some s) (hs0 : s ≠ 0)
    {v : XV} {K : Heap} {call : CallF} (hv : xop E call (.faddr fd.offset y) T H = some (.val v K)) : OpRes P o a σ H w v K := by
  have hr := rel_ev hg hT hx
  simp only [xop] at hv
  generalize ev E T y = p at hv hr
  have hrun : ∀ B off, a.eval x = .pointer (some ⟨B, off, none⟩) → (execOp a.eval o).run P w = .ok (.value (.pointer (some ⟨B, off + fd.offset, none⟩))) w := by
    intro B off he
    simp [execOp, ho, he, Instr.fieldAt, run_underlying hd, hf, Instr.sureAddr, fieldPlace, run_size hs, hs0, add_none]
  cases p <;> simp only [reduceCtorEq] at hv
  · rename_i b off
    obtain ⟨B, base, n, hb, he⟩ := hr
    simp at hv
    obtain ⟨rfl, rfl⟩ := hv
    exact .still h (hrun _ _ he) ⟨B, base, n, hb, by simp [Nat.add_assoc]⟩
  · rename_i cs
    obtain ⟨B, off, he, hc⟩ := hr
    split at hv
    · rename_i hle
      simp at hv
      obtain ⟨rfl, rfl⟩ := hv
      refine .still h (hrun _ _ he) ⟨B, off + fd.offset, rfl, ?_⟩
      rcases hc with rfl | ⟨C, e, fr, hro, hle2, hrel⟩
      · left; simp
      · right
        refine ⟨C, e, fr, hro, by simp; omega, ?_⟩
        have := relL_drop fd.offset hrel
        rwa [List.drop_take, List.drop_drop, show cs.length - fd.offset = (cs.drop fd.offset).length by simp] at this
    · cases hv

theorem asNat_eq {x : XV} {n : Nat} (h : asNat x = some n) : ∃ k, x = .int k (n : Int) := by
  unfold asNat at h
  split at h
  · rename_i k m
    split at h
    · rename_i hm; cases h; exact ⟨k, by rw [Int.toNat_of_nonneg hm]⟩
    · cases h
  · cases h

theorem op_iaddr (h : WF σ H w) (hg : globOk E σ) (hT : relL σ T a.tmps.toList) {t e : TypeId} {x i : Operand} {y j : XO} (ho : o.op = .indexAddr t x i) (hx : cO x = some y) (hi : cO i = some j)
    {s : Nat} (hd : P.underlying t = some (.slice e)) (hs : cSize P e = some s)
    {v : XV} {K : Heap} {call : CallF} (hv : xop E call (.iaddr s y j) T H = some (.val v K)) : OpRes P o a σ H w v K := by
  have hr := rel_ev hg hT hx
  have hri := rel_ev hg hT hi
  simp only [xop] at hv
  generalize ev E T y = p at hv hr
  cases hn : asNat (ev E T j) with
  | none => simp only [hn] at hv; cases p <;> simp only [reduceCtorEq] at hv
  | some m =>
    obtain ⟨k, hk⟩ := asNat_eq hn
    rw [hk] at hri
    have hie := rel_int hri
    have hrun : ∀ B off len cap, a.eval x = .slice (some ⟨B, off, none⟩) len cap → m < len → (execOp a.eval o).run P w = .ok (.value (.pointer (some ⟨B, off + m * s, none⟩))) w := by
      intro B off len cap he hlt
      simp [execOp, ho, he, hie, Instr.indexAt, run_underlying hd, asIntOf, hlt, run_size hs, add_none]
    simp only [hn] at hv
    cases p <;> simp only [reduceCtorEq] at hv
    · rename_i b off len esz
      obtain ⟨B, base, n, hb, o', cap, he, hlc, hoo⟩ := hr
      split at hv
      · rename_i hlt
        simp at hv
        obtain ⟨rfl, rfl⟩ := hv
        rcases hoo with ⟨rfl, _⟩ | rfl
        · exact .still h (hrun _ _ _ _ he hlt) ⟨B, base, n, hb, by simp [Nat.add_assoc]⟩
        · omega
      · cases hv
    · rename_i len cs
      rcases hr with ⟨B, off, cap, he, hlc, hc⟩ | ⟨rfl, rfl, _, _, _⟩
      rotate_left
      · simp at hv
      split at hv
      · rename_i hlt
        simp at hv
        obtain ⟨rfl, rfl⟩ := hv
        refine .still h (hrun _ _ _ _ he hlt.1) ⟨B, off + m * s, rfl, ?_⟩
        rcases hc with rfl | ⟨C, e, fr, hro, hle2, hrel⟩
        · left; simp
        · right
          refine ⟨C, e, fr, hro, by simp; omega, ?_⟩
          have := relL_drop (m * s) hrel
          rwa [List.drop_take, List.drop_drop, show cs.length - m * s = (cs.drop (m * s)).length by simp] at this
      · cases hv

theorem op_iaddrA (h : WF σ H w) (hg : globOk E σ) (hT : relL σ T a.tmps.toList) {t e : TypeId} {x i : Operand} {y j : XO} (ho : o.op = .indexAddr t x i) (hx : cO x = some y) (hi : cO i = some j)
    {s len : Nat} (hd : P.underlying t = some (.array len e)) (hs : cSize P e = some s)
    {v : XV} {K : Heap} {call : CallF} (hv : xop E call (.iaddrA len s y j) T H = some (.val v K)) : OpRes P o a σ H w v K := by
  have hr := rel_ev hg hT hx
  have hri := rel_ev hg hT hi
  simp only [xop] at hv
  generalize ev E T y = p at hv hr
  cases hn : asNat (ev E T j) with
  | none => simp only [hn] at hv; cases p <;> simp only [reduceCtorEq] at hv
  | some m =>
    obtain ⟨k, hk⟩ := asNat_eq hn
    rw [hk] at hri
    have hie := rel_int hri
    have hrun : ∀ B off, a.eval x = .pointer (some ⟨B, off, none⟩) → m < len → (execOp a.eval o).run P w = .ok (.value (.pointer (some ⟨B, off + m * s, none⟩))) w := by
      intro B off he hlt
      simp [execOp, ho, he, hie, Instr.indexAt, run_underlying hd, asIntOf, hlt, run_size hs, add_none, Instr.sureAddr]
    simp only [hn] at hv
    cases p <;> simp only [reduceCtorEq] at hv
    · rename_i b off
      obtain ⟨B, base, n, hb, he⟩ := hr
      split at hv
      · rename_i hlt
        simp at hv
        obtain ⟨rfl, rfl⟩ := hv
        exact .still h (hrun _ _ he hlt) ⟨B, base, n, hb, by simp [Nat.add_assoc]⟩
      · cases hv
    · rename_i cs
      obtain ⟨B, off, he, hc⟩ := hr
      split at hv
      · rename_i hlt
        simp at hv
        obtain ⟨rfl, rfl⟩ := hv
        refine .still h (hrun _ _ he hlt.1) ⟨B, off + m * s, rfl, ?_⟩
        rcases hc with rfl | ⟨C, e, fr, hro, hle2, hrel⟩
        · left; simp
        · right
          refine ⟨C, e, fr, hro, by simp; omega, ?_⟩
          have := relL_drop (m * s) hrel
          rwa [List.drop_take, List.drop_drop, show cs.length - m * s = (cs.drop (m * s)).length by simp] at this
      · cases hv

theorem op_nilc (h : WF σ H w) (hg : globOk E σ) (hT : relL σ T a.tmps.toList) {x : Operand} {y : XO} (ho : o.op = .nilCheck x) (hx : cO x = some y)
    {v : XV} {K : Heap} {call : CallF} (hv : xop E call (.nilc y) T H = some (.val v K)) : OpRes P o a σ H w v K := by
  have hr := rel_ev hg hT hx
  simp only [xop] at hv
  generalize ev E T y = p at hv hr
  cases p <;> (try simp only [reduceCtorEq] at hv)
  · rename_i b off
    cases hv
    have hr2 := hr
    obtain ⟨B, base, n, hb, he⟩ := hr
    exact .still h (by simp [execOp, ho, he]) (he ▸ hr2)
  · rename_i cs
    cases hv
    have hr2 := hr
    obtain ⟨B, off, he, hc⟩ := hr
    exact .still h (by simp [execOp, ho, he]) (he ▸ hr2)
  · rename_i f fa fb
    cases f <;> (try simp only [reduceCtorEq] at hv)
    cases hv
    have hr2 := hr
    obtain ⟨a', b', he, _⟩ := hr
    exact .still h (by simp [execOp, ho, he]) (he ▸ hr2)

theorem op_extract (h : WF σ H w) (hg : globOk E σ) (hT : relL σ T a.tmps.toList) {x : Operand} {y : XO} {i : Nat} (ho : o.op = .extract x i) (hx : cO x = some y)
    {v : XV} {K : Heap} {call : CallF} (hv : xop E call (.extract y i) T H = some (.val v K)) : OpRes P o a σ H w v K := by
  have hr := rel_ev hg hT hx
  simp only [xop] at hv
  generalize ev E T y = p at hv hr
  cases p <;> simp only [reduceCtorEq] at hv
  rename_i cs
  obtain ⟨cs', he, hrel⟩ := hr
  split at hv
  · rename_i q hq
    simp at hv
    obtain ⟨rfl, rfl⟩ := hv
    obtain ⟨u, hu, hru⟩ := relL_get i hrel hq
    have hu' : cs'[i]? = some u := by simpa using hu
    exact .still h (v' := u) (by simp [execOp, ho, he, Instr.extract, hu']) hru
  · cases hv

theorem op_mkif (h : WF σ H w) (hg : globOk E σ) (hT : relL σ T a.tmps.toList) {t : TypeId} {x : Operand} {y : XO} {d : TypeDesc} (ho : o.op = .makeInterface t x) (hx : cO x = some y)
    (hd : P.underlying t = some d) (hn : ∀ ms, d ≠ .interface ms) : OpRes P o a σ H w (.iface t (ev E T y)) H := by
  refine .still h (v' := .iface t (a.eval x)) ?_ ⟨_, rfl, rel_ev hg hT hx⟩
  cases d <;> first
    | (simp [execOp, ho, Instr.makeInterface, run_underlying hd]; done)
    | exact absurd rfl (hn _)

theorem op_mkfn (h : WF σ H w) (hg : globOk E σ) (hT : relL σ T a.tmps.toList) {f : Fn} {x y : Array Operand} {x' y' : List XO} (ho : o.op = .makeFunc f x y) (hx : cOs x.toList = some x') (hy : cOs y.toList = some y') :
    OpRes P o a σ H w (.fn f (x'.map (ev E T)) (y'.map (ev E T))) H :=
  .still h (v' := .func f (x.map a.eval) (y.map a.eval)) (by simp [execOp, ho, Instr.makeFunc]) ⟨_, _, rfl, by simpa using relL_evs hg hT hx, by simpa using relL_evs hg hT hy⟩

end
end Go.X
namespace Go.X
open Go

section
variable {P : Program} {E : Env} {σ : Ctx} {T : List XV} {H : Heap} {a : Act} {w : World} {o : Oper}

theorem okv_eq {x : Option XV} {H : Heap} {v : XV} {K : Heap} (h : okv x H = some (.val v K)) : x = some v ∧ K = H := by
  cases x with
  | none => simp [okv] at h
  | some y => simp [okv] at h; exact ⟨by rw [h.1], h.2.symm⟩

/-- Nothing is asked ahead of a comparison, but of two structs or two nil interface values. -/
theorem run_eqGuard_other (op : BinOp) (t : TypeId) (x y : Operand) (p q : Value) (h : ∀ cs, p ≠ .agg cs) (hn : p ≠ .nilIface) (w : World) :
    (eqGuard op t x y p q).run P w = .ok () w := by
  cases op <;> cases p <;> first
    | exact absurd rfl hn
    | exact absurd rfl (h _)
    | (simp [eqGuard]; done)

theorem run_bin_int (op : BinOp) (t : TypeId) (k k' : IntKind) (p q : Int) {v : XV} (h : bin op (.int k p) (.int k' q) = some v) (w : World) : ∃ v', (binOp op t (.int k p) (.int k' q)).run P w = .ok v' w ∧ rel σ v v' := by
  simp only [bin] at h
  split at h
  · rename_i hs
    cases op <;> simp [isShift] at hs <;> simp only [shiftBin] at h <;> split at h <;> cases h <;> rename_i hq <;> simp [binOp, Op.shift, hq, rel]
  · rename_i hs
    split at h
    · rename_i hk
      subst hk
      cases op <;> simp [isShift] at hs <;> simp only [intBin] at h <;>
        first
          | (cases h; simp [binOp, Op.intArith, Op.intBits, Op.intCmp, rel]; done)
          | (split at h <;> cases h; rename_i hq; simp [binOp, Op.intDiv, hq, rel])
    · cases h

theorem ba_append (x y : List UInt8) : (⟨x.toArray⟩ : ByteArray) ++ ⟨y.toArray⟩ = ⟨(x ++ y).toArray⟩ := by
  apply ByteArray.ext; simp
theorem ba_size (x : List UInt8) : (⟨x.toArray⟩ : ByteArray).size = x.length := by simp [ByteArray.size]
theorem ba_extract (x : List UInt8) (l h : Nat) : (⟨x.toArray⟩ : ByteArray).extract l h = ⟨((x.take h).drop l).toArray⟩ := by
  apply ByteArray.ext; simp [List.drop_take]

theorem run_bin_str (op : BinOp) (t : TypeId) (p q : List UInt8) {v : XV} (h : strBin op p q = some v) (w : World) :
    ∃ v', (binOp op t (.string ⟨p.toArray⟩) (.string ⟨q.toArray⟩)).run P w = .ok v' w ∧ rel σ v v' := by
  cases op <;> simp only [strBin, reduceCtorEq] at h <;>
    first
      | (cases h; simp [binOp, Op.stringOp, rel]; done)
      | (split at h
         · cases h
         · rename_i hn
           cases h
           simp only [binOp, Op.stringOp, ba_size, if_neg hn, ba_append]
           exact ⟨_, rfl, rfl⟩)

theorem op_bin (h : WF σ H w) (hg : globOk E σ) (hT : relL σ T a.tmps.toList) {op : BinOp} {t u : TypeId} {x y : Operand} {x' y' : XO} (ho : o.op = .binOp op t x y u) (hx : cO x = some x') (hy : cO y = some y')
    {v : XV} {K : Heap} {call : CallF} (hv : xop E call (.bin op x' y') T H = some (.val v K)) : OpRes P o a σ H w v K := by
  have hrx := rel_ev hg hT hx
  have hry := rel_ev hg hT hy
  simp only [xop] at hv
  obtain ⟨hb, rfl⟩ := okv_eq hv
  generalize ev E T x' = p at hb hrx
  generalize ev E T y' = q at hb hry
  have main : ∃ v', (do eqGuard op t x y (a.eval x) (a.eval y); binOp op t (a.eval x) (a.eval y) : Sem Value).run P w = .ok v' w ∧ rel σ v v' := by
    cases p <;> (try simp only [bin, reduceCtorEq] at hb) <;> cases q <;> (try simp only [reduceCtorEq] at hb)
    · rw [rel_int hrx, rel_int hry]
      obtain ⟨v', h1, h2⟩ := run_bin_int (P := P) (σ := σ) op t _ _ _ _ (v := v) (by simpa only [bin] using hb) w
      exact ⟨v', by rw [Sem.run_bind, run_eqGuard_other op t x y _ _ (by simp) (by simp)]; exact h1, h2⟩
    · rw [rel_strv hrx, rel_strv hry]
      obtain ⟨v', h1, h2⟩ := run_bin_str (P := P) (σ := σ) op t _ _ (v := v) hb w
      exact ⟨v', by rw [Sem.run_bind, run_eqGuard_other op t x y _ _ (by simp) (by simp)]; exact h1, h2⟩
  obtain ⟨v', hrun, hr⟩ := main
  refine .still h (v' := v') ?_ hr
  simp only [execOp, ho, Sem.run_bind] at hrun ⊢
  rw [hrun]; rfl

theorem op_un (h : WF σ H w) (hg : globOk E σ) (hT : relL σ T a.tmps.toList) {op : UnOp} {t : TypeId} {x : Operand} {y : XO} (ho : o.op = .unOp op t x) (hx : cO x = some y)
    {v : XV} {K : Heap} {call : CallF} (hv : xop E call (.un op y) T H = some (.val v K)) : OpRes P o a σ H w v K := by
  have hr := rel_ev hg hT hx
  simp only [xop] at hv
  obtain ⟨hb, rfl⟩ := okv_eq hv
  generalize ev E T y = p at hb hr
  cases op <;> cases p <;> simp only [un, reduceCtorEq, Option.some.injEq] at hb <;> subst hb
  · exact .still h (by simp [execOp, ho, rel_int hr, Op.unary, Op.intArith]) rfl
  · exact .still h (by simp [execOp, ho, rel_int hr, Op.unary, Op.intBits]) rfl
  · exact .still h (by simp [execOp, ho, rel_bool hr, Op.unary]) rfl

theorem op_convI (h : WF σ H w) (hg : globOk E σ) (hT : relL σ T a.tmps.toList) {s t : TypeId} {x : Operand} {y : XO} {d : TypeDesc} {k : IntKind} (ho : o.op = .convert s t x) (hx : cO x = some y)
    (hs : P.underlying s = some d) (hd : P.underlying t = some (.int k)) {v : XV} {K : Heap} {call : CallF} (hv : xop E call (.convI k y) T H = some (.val v K)) : OpRes P o a σ H w v K := by
  have hr := rel_ev hg hT hx
  simp only [xop] at hv
  generalize ev E T y = p at hv hr
  cases p <;> simp only [reduceCtorEq] at hv
  cases hv
  exact .still h (by simp [execOp, ho, rel_int hr, convert, run_underlying hs, run_underlying hd, Conv.intToInt]) rfl

theorem op_convS (h : WF σ H w) (hg : globOk E σ) (hT : relL σ T a.tmps.toList) {s t : TypeId} {x : Operand} {y : XO} (ho : o.op = .convert s t x) (hx : cO x = some y)
    (hs : P.underlying s = some .string) (hd : P.underlying t = some .string) {v : XV} {K : Heap} {call : CallF} (hv : xop E call (.convS y) T H = some (.val v K)) : OpRes P o a σ H w v K := by
  have hr := rel_ev hg hT hx
  simp only [xop] at hv
  generalize ev E T y = p at hv hr
  cases p <;> simp only [reduceCtorEq] at hv
  cases hv
  exact .still h (by simp [execOp, ho, rel_strv hr, convert, run_underlying hs, run_underlying hd]) rfl

theorem op_lenC (h : WF σ H w) {t u : TypeId} {x : Operand} {n : Nat} {c : Call} (ho : o.op = .call c) (hc : c.callee = .builtin .len) (hxs : c.args.toList = [x]) (hts : c.argTypes.toList = [t])
    (hd : P.underlying t = some (.array n u)) : OpRes P o a σ H w (.int .i64 (n : Int)) H := by
  have h1 : c.args = #[x] := by simpa using congrArg List.toArray hxs
  have h2 : c.argTypes = #[t] := by simpa using congrArg List.toArray hts
  exact .still h (by simp [execOp, ho, resolve, hc, h1, h2, invoke, builtin, Builtin.len_, run_underlying hd, goInt]) rfl

theorem op_len (h : WF σ H w) (hg : globOk E σ) (hT : relL σ T a.tmps.toList) {t : TypeId} {x : Operand} {y : XO} {c : Call} (ho : o.op = .call c) (hc : c.callee = .builtin .len) (hxs : c.args.toList = [x]) (hts : c.argTypes.toList = [t])
    (hx : cO x = some y) (st : Bool) (hd : if st then P.underlying t = some .string else ∃ e, P.underlying t = some (.slice e))
    {v : XV} {K : Heap} {call : CallF} (hv : xop E call (.len st y) T H = some (.val v K)) : OpRes P o a σ H w v K := by
  have h1 : c.args = #[x] := by simpa using congrArg List.toArray hxs
  have h2 : c.argTypes = #[t] := by simpa using congrArg List.toArray hts
  have hr := rel_ev hg hT hx
  simp only [xop] at hv
  generalize ev E T y = p at hv hr
  obtain ⟨hb, rfl⟩ := okv_eq hv
  cases st
  · obtain ⟨e, hd⟩ := hd
    cases p <;> simp [lenOf] at hb
    · obtain ⟨B, base, n, hb2, o', cap, he, _⟩ := hr
      subst hb
      exact .still h (by simp [execOp, ho, resolve, hc, h1, h2, invoke, builtin, Builtin.len_, run_underlying hd, goInt, he]) rfl
    · obtain ⟨_, cap, he⟩ : ∃ ad cap, a.eval x = .slice (some ad) _ cap := by
        rcases hr with ⟨B, off, cap, he, _⟩ | ⟨rfl, _, ad, cap, he⟩
        · exact ⟨_, _, he⟩
        · exact ⟨_, _, he⟩
      subst hb
      exact .still h (by simp [execOp, ho, resolve, hc, h1, h2, invoke, builtin, Builtin.len_, run_underlying hd, goInt, he]) rfl
    · have he : a.eval x = .slice none 0 0 := hr
      subst hb
      exact .still h (by simp [execOp, ho, resolve, hc, h1, h2, invoke, builtin, Builtin.len_, run_underlying hd, goInt, he]) rfl
  · cases p <;> simp [lenOf] at hb
    subst hb
    have hd' : P.underlying t = some .string := hd
    exact .still h (by simp [execOp, ho, resolve, hc, h1, h2, invoke, builtin, Builtin.len_, run_underlying hd', goInt, rel_strv hr, ba_size]) rfl

end
end Go.X
namespace Go.X
open Go

section
variable {P : Program} {E : Env} {σ : Ctx} {T : List XV} {H : Heap} {a : Act} {w : World} {o : Oper}

/-- A part of a value's cells. -/
theorem run_part {t : TypeId} {d : TypeDesc} (hd : P.underlying t = some d) {sz : Nat} {ag : Bool}
    (hs : (aggD d = true ∧ ag = true ∧ cSize P t = some sz) ∨ (aggD d = false ∧ ag = false ∧ sz = 1)) {cs : List XV} {C : Array Value} (hr : relL σ cs C.toList) {off : Nat} {v : XV}
    (hv : (takeAt cs off sz).bind (one · ag) = some v) (w : World) : ∃ v', (part t C off).run P w = .ok v' w ∧ rel σ v v' := by
  have hlen : C.size = cs.length := by simpa using relL_length hr
  cases ht : takeAt cs off sz with
  | none => simp [ht] at hv
  | some r =>
    simp [ht] at hv
    obtain ⟨h1, rfl⟩ := takeAt_eq ht
    have hrr : relL σ ((cs.drop off).take sz) ((C.toList.drop off).take sz) := relL_take _ (relL_drop _ hr)
    rcases hs with ⟨had, rfl, hsz⟩ | ⟨had, rfl, rfl⟩
    · rcases one_cases hv with ⟨_, rfl⟩ | ⟨h', _⟩
      · refine ⟨.agg (C.extract off (off + sz)), ?_, ⟨_, rfl, ?_⟩⟩
        · simp [part, run_isAgg hd, had, run_size hsz]
        · rw [show (C.extract off (off + sz)).toList = (C.toList.drop off).take sz by simp [List.extract_eq_take_drop]]
          exact hrr
      · cases h'
    · rcases one_cases hv with ⟨h', _⟩ | ⟨_, he⟩
      · cases h'
      · rw [he] at hrr
        simp only [relL] at hrr
        obtain ⟨u, r, hu, hx, hr2⟩ := hrr
        subst hr2
        refine ⟨u, ?_, hx⟩
        have hc : C[off]? = some u := by
          have : ((C.toList.drop off).take 1)[0]? = some u := by rw [hu]; rfl
          simpa using this
        simp [part, run_isAgg hd, had, hc]

theorem op_field (h : WF σ H w) (hg : globOk E σ) (hT : relL σ T a.tmps.toList) {t : TypeId} {x : Operand} {f : Nat} {y : XO} (ho : o.op = .field t x f) (hx : cO x = some y)
    {fs : Array Field} {fd : Field} {d : TypeDesc} {sz : Nat} {ag : Bool} (hd : P.underlying t = some (.struct fs)) (hf : fs[f]? = some fd) (hfd : P.underlying fd.type = some d)
    (hs : (aggD d = true ∧ ag = true ∧ cSize P fd.type = some sz) ∨ (aggD d = false ∧ ag = false ∧ sz = 1))
    {v : XV} {K : Heap} {call : CallF} (hv : xop E call (.field fd.offset sz ag y) T H = some (.val v K)) : OpRes P o a σ H w v K := by
  have hr := rel_ev hg hT hx
  simp only [xop] at hv
  generalize ev E T y = p at hv hr
  cases p <;> simp only [reduceCtorEq] at hv
  obtain ⟨hb, rfl⟩ := okv_eq hv
  obtain ⟨C, he, hrel⟩ := hr
  obtain ⟨v', hrun, hv'⟩ := run_part (σ := σ) hfd hs hrel hb w
  exact .still h (v' := v') (by simp [execOp, ho, he, Instr.field, run_underlying hd, hf, asAgg, hrun]) hv'

theorem op_idxS (h : WF σ H w) (hg : globOk E σ) (hT : relL σ T a.tmps.toList) {t : TypeId} {x i : Operand} {y j : XO} (ho : o.op = .index t x i) (hx : cO x = some y) (hi : cO i = some j)
    (hd : P.underlying t = some .string) {v : XV} {K : Heap} {call : CallF} (hv : xop E call (.idxS y j) T H = some (.val v K)) : OpRes P o a σ H w v K := by
  have hr := rel_ev hg hT hx
  have hri := rel_ev hg hT hi
  simp only [xop] at hv
  generalize ev E T y = p at hv hr
  cases hn : asNat (ev E T j) with
  | none => simp only [hn] at hv; cases p <;> simp only [reduceCtorEq] at hv
  | some m =>
    obtain ⟨k, hk⟩ := asNat_eq hn
    rw [hk] at hri
    have hie := rel_int hri
    simp only [hn] at hv
    cases p <;> simp only [reduceCtorEq] at hv
    rename_i s
    split at hv
    · rename_i c hc
      cases hv
      have hs := rel_strv hr
      have hlt : m < s.length := by
        rcases Nat.lt_or_ge m s.length with h' | h'
        · exact h'
        · simp [List.getElem?_eq_none h'] at hc
      have hbb : (⟨s.toArray⟩ : ByteArray)[m]? = some c := by
        have h3 : m < (⟨s.toArray⟩ : ByteArray).size := by rw [ba_size]; exact hlt
        rw [getElem?_pos (⟨s.toArray⟩ : ByteArray) m h3]
        have h4 : s[m] = c := by rw [List.getElem?_eq_getElem hlt] at hc; exact Option.some.inj hc
        rw [← h4]; rfl
      exact .still h (v' := .int .u8 (c.toNat : Int)) (by simp [execOp, ho, hs, hie, Instr.index, run_underlying hd, asIntOf, hbb]) rfl
    · cases hv

theorem op_idxA (h : WF σ H w) (hg : globOk E σ) (hT : relL σ T a.tmps.toList) {t e : TypeId} {x i : Operand} {y j : XO} {n : Nat} (ho : o.op = .index t x i) (hx : cO x = some y) (hi : cO i = some j)
    {d : TypeDesc} {sz : Nat} {ag : Bool} (hd : P.underlying t = some (.array n e)) (he : P.underlying e = some d) (hsz : cSize P e = some sz) (hs : (aggD d = true ∧ ag = true) ∨ (aggD d = false ∧ ag = false ∧ sz = 1))
    {v : XV} {K : Heap} {call : CallF} (hv : xop E call (.idxA n sz ag y j) T H = some (.val v K)) : OpRes P o a σ H w v K := by
  have hr := rel_ev hg hT hx
  have hri := rel_ev hg hT hi
  simp only [xop] at hv
  generalize ev E T y = p at hv hr
  cases hn : asNat (ev E T j) with
  | none => simp only [hn] at hv; cases p <;> simp only [reduceCtorEq] at hv
  | some m =>
    obtain ⟨k, hk⟩ := asNat_eq hn
    rw [hk] at hri
    have hie := rel_int hri
    simp only [hn] at hv
    cases p <;> simp only [reduceCtorEq] at hv
    split at hv
    · rename_i hlt
      obtain ⟨hb, rfl⟩ := okv_eq hv
      obtain ⟨C, hce, hrel⟩ := hr
      obtain ⟨v', hrun, hv'⟩ := run_part (σ := σ) he (by rcases hs with ⟨h1, h2⟩ | ⟨h1, h2, h3⟩; exact .inl ⟨h1, h2, hsz⟩; exact .inr ⟨h1, h2, h3⟩) hrel hb w
      exact .still h (v' := v') (by simp [execOp, ho, hce, hie, Instr.index, run_underlying hd, asIntOf, hlt, run_size hsz, hrun]) hv'
    · cases hv

/-! ### stores -/

theorem setCells_heap (B : Nat) : ∀ (vs : List Value) (off : Nat) (w : World) (C : Array Value) (e : TypeId) (fr : Nat × Nat), w.heap[B]? = some (.cells C e fr) → off + vs.length ≤ C.size →
    ∃ C', (w.setCells B off vs).heap[B]? = some (.cells C' e fr) ∧ C'.toList = C.toList.take off ++ vs ++ C.toList.drop (off + vs.length) ∧ (w.setCells B off vs).heap.size = w.heap.size ∧
      ∀ B', B' ≠ B → (w.setCells B off vs).heap[B']? = w.heap[B']?
  | [], off, w, C, e, fr, h, _ => ⟨C, h, by simp, rfl, fun _ _ => rfl⟩
  | v :: r, off, w, C, e, fr, h, hle => by
    have h1 : (w.setCell ⟨B, off, none⟩ v).heap[B]? = some (.cells (C.setIfInBounds off v) e fr) := by
      simp [World.setCell, Array.getElem?_modify, h]
    simp at hle
    obtain ⟨C', h2, h3, h4, h5⟩ := setCells_heap B r (off + 1) (w.setCell ⟨B, off, none⟩ v) _ e fr h1 (by simp; omega)
    refine ⟨C', h2, ?_, by rw [World.setCells, h4]; simp, fun B' hB => ?_⟩
    · rw [h3]
      have hlt : off < C.toList.length := by simp; omega
      simp only [Array.toList_setIfInBounds, List.length_cons]
      rw [List.take_set, List.drop_set_of_lt (by omega), List.take_succ_eq_append_getElem hlt]
      rw [List.set_append_right _ _ (by rw [List.length_take]; exact Nat.min_le_left _ _)]
      rw [List.length_take, Nat.min_eq_left (Nat.le_of_lt hlt), Nat.sub_self]
      simp [Nat.add_assoc, Nat.add_comm 1]
    · show ((w.setCell ⟨B, off, none⟩ v).setCells B (off + 1) r).heap[B']? = _
      rw [h5 B' hB]
      simp [World.setCell, Array.getElem?_modify, Ne.symm hB]

theorem setCells_calm (B : Nat) : ∀ (vs : List Value) (off : Nat) (w : World), (w.setCells B off vs).os = w.os ∧ (w.setCells B off vs).output = w.output
  | [], _, _ => ⟨rfl, rfl⟩
  | v :: r, off, w => setCells_calm B r (off + 1) (w.setCell ⟨B, off, none⟩ v)

theorem op_store (h : WF σ H w) (hg : globOk E σ) (hT : relL σ T a.tmps.toList) {t : TypeId} {x y : Operand} {x' y' : XO} {sz : Nat} (ho : o.op = .store t x y) (hx : cO x = some x') (hy : cO y = some y') (hs : cSize P t = some sz)
    {v : XV} {K : Heap} {call : CallF} (hv : xop E call (.store sz x' y') T H = some (.val v K)) : OpRes P o a σ H w v K := by
  have hrx := rel_ev hg hT hx
  have hry := rel_cells (rel_ev hg hT hy)
  simp only [xop] at hv
  generalize ev E T x' = p at hv hrx
  generalize ev E T y' = q at hv hry
  cases p <;> simp only [reduceCtorEq] at hv
  rename_i b off
  obtain ⟨B, base, n, hb, he⟩ := hrx
  split at hv
  · rename_i cs hcs
    split at hv
    · rename_i hok
      obtain ⟨hle, hsz, hone⟩ := hok
      cases hv
      obtain ⟨C, e, fr, hB, hn, hfree, hbl, hrel⟩ := h.cells hcs hb
      have hl2 : (a.eval y).cells.toList.length = sz := by rw [relL_length hry, hsz]
      have h1 : ∀ u ∈ (a.eval y).cells.toList, u.oneCell' = true := by
        intro u hu
        obtain ⟨i, hi⟩ := List.getElem?_of_mem hu
        have hilt : i < (cellsOf q).length := by
          rcases Nat.lt_or_ge i (cellsOf q).length with h' | h'
          · exact h'
          · rw [hsz] at h'; rw [List.getElem?_eq_none (by omega)] at hi; cases hi
        obtain ⟨u', hu', hru⟩ := relL_get i hry (List.getElem?_eq_getElem hilt)
        rw [hi] at hu'
        cases hu'
        exact rel_oneCell hru (List.all_eq_true.1 hone _ (List.getElem_mem hilt))
      have hst := run_storeCells_cells (P := P) B (base + off) (a.eval y).cells.toList 0 w (fun j hj => by
          simp only [Nat.add_zero, World.cell?, hB]
          have : base + off + j < C.size := by omega
          simp [this]) (fun j hj => by
          simp only [Nat.add_zero, World.frozen?, hB]
          rcases hfree with h' | h'
          · simp; omega
          · simp; omega) h1
      simp only [Nat.add_zero] at hst
      obtain ⟨C', h2, h3, h4, h5⟩ := setCells_heap B (a.eval y).cells.toList (base + off) w C e fr hB (by omega)
      have hsize : (a.eval y).cells.size = sz := by simpa using hl2
      refine ⟨undef, w.setCells B (base + off) (a.eval y).cells.toList, σ, .inr ⟨?_, rfl⟩, ⟨#[], rfl, by simp [relL]⟩, ?_⟩
      · simp [execOp, ho, he, Instr.storeAt, Instr.sureAddr, storeVar, run_size hs, hsize, hst]
      · have hlen : (putAt cs off (cellsOf q)).length = cs.length := by simp [putAt, hsz]; omega
        refine Step.turn h hb (cellsAt_live hcs) (blkOk_setCs h hcs hb hlen (fun C0 e0 fr0 h0 => by rw [hB] at h0; cases h0; exact ⟨C', fr, h2⟩) ⟨C', e, fr, h2, ?_, hfree, ?_, ?_⟩) h5 h4 (setCells_calm _ _ _ _)
        · have := congrArg List.length h3
          simp at this
          have h6 : C.size = n := hn
          omega
        · simp [putAt, hsz]; omega
        · rw [h3]
          rw [hlen]
          have e1 : ((C.toList.take (base + off) ++ (a.eval y).cells.toList ++ C.toList.drop (base + off + (a.eval y).cells.toList.length)).drop base).take cs.length =
              (((C.toList.drop base).take cs.length).take off) ++ (a.eval y).cells.toList ++ (((C.toList.drop base).take cs.length).drop (off + sz)) := by
            rw [hl2, List.append_assoc, List.drop_append, List.length_take]
            rw [show min (base + off) C.toList.length = base + off by simp; omega, show base - (base + off) = 0 by omega, List.drop_zero]
            rw [List.drop_take, show base + off - base = off by omega]
            rw [List.take_append, List.take_take, List.length_take, List.take_append, hl2]
            rw [show min cs.length off = off by omega, show min off (C.toList.drop base).length = off by simp; omega]
            rw [List.take_take, show min off cs.length = off by omega]
            rw [show cs.length - off - sz = cs.length - (off + sz) by omega, List.append_assoc]
            rw [List.take_of_length_le (l := (a.eval y).cells.toList) (by rw [hl2]; omega)]
            rw [List.drop_take, List.drop_drop, Nat.add_assoc]
          rw [e1]
          refine relL_append (relL_append (relL_take _ hrel) hry) ?_
          rw [hsz]
          exact relL_drop _ hrel
    · cases hv
  · cases hv

end
end Go.X
namespace Go.X
open Go

section
variable {P : Program} {E : Env} {σ : Ctx} {T : List XV} {H : Heap} {a : Act} {w : World} {o : Oper}

/-! ### what is built -/

theorem foldl_put (off : Nat) : ∀ (vs : List Value) (j : Nat) (C : Array Value), (vs.zipIdx j).foldl (fun cs (p : Value × Nat) => cs.setIfInBounds (off + p.2) p.1) C =
    ((vs.zipIdx j).foldl (fun cs (p : Value × Nat) => cs.set (off + p.2) p.1) C.toList).toArray
  | [], _, C => by simp
  | v :: r, j, C => by
    simp only [List.zipIdx_cons, List.foldl_cons]
    rw [foldl_put off r (j + 1)]
    simp

theorem foldl_set (off : Nat) : ∀ (vs : List Value) (j : Nat) (l : List Value), off + j + vs.length ≤ l.length →
    (vs.zipIdx j).foldl (fun cs (p : Value × Nat) => cs.set (off + p.2) p.1) l = l.take (off + j) ++ vs ++ l.drop (off + j + vs.length)
  | [], j, l, _ => by simp
  | v :: r, j, l, h => by
    simp at h
    simp only [List.zipIdx_cons, List.foldl_cons]
    rw [foldl_set off r (j + 1) _ (by simp; omega)]
    have hlt : off + j < l.length := by omega
    rw [← Nat.add_assoc off j 1, List.take_set, List.drop_set_of_lt (by omega), List.take_succ_eq_append_getElem hlt]
    rw [List.set_append_right _ _ (by rw [List.length_take]; exact Nat.min_le_left _ _)]
    rw [List.length_take, Nat.min_eq_left (Nat.le_of_lt hlt), Nat.sub_self]
    simp [Nat.add_assoc, Nat.add_comm 1]

theorem fill_ok {σ : Ctx} {ρ : Operand → Value} {E : Env} {T : List XV} {place place' : Nat → Option (Nat × Nat)} (hp : ∀ i x, place i = some x → place' i = some x) (hev : ∀ o x, cO o = some x → rel σ (ev E T x) (ρ o)) :
    ∀ (parts : List (Nat × Operand)) (xs : List (Nat × Nat × XO)) (cs r : List XV) (C : Array Value), cParts place parts = some xs → relL σ cs C.toList →
      putParts cs (xs.map fun (o, s, x) => (o, s, ev E T x)) = some r →
      ∃ C', Instr.fill place' C (parts.map fun p => (p.1, ρ p.2)) = some C' ∧ relL σ r C'.toList
  | [], xs, cs, r, C, h, hr, hput => by
    simp [cParts] at h; subst h
    simp [putParts] at hput; subst hput
    exact ⟨C, rfl, hr⟩
  | (i, x) :: rest, xs, cs, r, C, h, hr, hput => by
    simp only [cParts] at h
    split at h
    · rename_i off s y ys hpl hx hrest
      cases h
      simp only [List.map_cons, putParts] at hput
      split at hput
      · rename_i hok
        obtain ⟨hsz, hle⟩ := hok
        have hc := rel_cells (hev x y hx)
        have hlen : (ρ x).cells.toList.length = s := by rw [relL_length hc, hsz]
        have hsize : (ρ x).cells.size = s := by simpa using hlen
        have hC : C.size = cs.length := by simpa using relL_length hr
        simp only [List.map_cons, Instr.fill, hp i _ hpl, hsize]
        rw [if_neg (by simp; omega)]
        have e1 : ((ρ x).cells.zipIdx.foldl (fun cs (c, j) => cs.setIfInBounds (off + j) c) C) = (C.toList.take off ++ (ρ x).cells.toList ++ C.toList.drop (off + s)).toArray := by
          have e0 : ((ρ x).cells.zipIdx.foldl (fun cs (c, j) => cs.setIfInBounds (off + j) c) C) = (((ρ x).cells.toList.zipIdx 0).foldl (fun cs (p : Value × Nat) => cs.setIfInBounds (off + p.2) p.1) C) := by
            rw [← Array.foldl_toList]
            simp
          rw [e0, foldl_put, foldl_set off _ 0 _ (by simp; omega), hlen, Nat.add_zero]
        rw [e1]
        refine fill_ok hp hev rest ys _ r _ hrest ?_ hput
        rw [List.toList_toArray, putAt, hsz]
        exact relL_append (relL_append (relL_take _ hr) hc) (relL_drop _ hr)
      · cases hput
    · cases h

theorem fields_at {P : Program} : ∀ {fs : List Field} {l : List (Nat × Nat)}, cFields P fs = some l → (∀ w, (fs.mapM fun f => Prod.mk f.offset <$> sizeOf f.type : Sem (List (Nat × Nat))).run P w = .ok l w)
  | [], l, h, w => by simp [cFields] at h; subst h; rfl
  | f :: r, l, h, w => by
    simp only [cFields] at h
    split at h
    · rename_i s l' hs hl
      cases h
      simp [List.mapM_cons, run_size hs, fields_at hl]
    · cases h

theorem op_build_struct (h : WF σ H w) (hg : globOk E σ) (hT : relL σ T a.tmps.toList) {t : TypeId} {parts : Array (Nat × Operand)} {fs : Array Field} {z : List XV} {l : List (Nat × Nat)} {xs : List (Nat × Nat × XO)}
    (ho : o.op = .build t parts) (hd : P.underlying t = some (.struct fs)) (hz : cZero P t = some z) (hl : cFields P fs.toList = some l) (hp : cParts (l[·]?) parts.toList = some xs)
    {v : XV} {K : Heap} {call : CallF} (hv : xop E call (.build z xs) T H = some (.val v K)) : OpRes P o a σ H w v K := by
  simp only [xop] at hv
  obtain ⟨hb, rfl⟩ := okv_eq hv
  cases hput : putParts z (xs.map fun (o, s, x) => (o, s, ev E T x)) with
  | none => simp [hput] at hb
  | some r =>
    simp [hput] at hb
    subst hb
    obtain ⟨zv, hz1, hz2⟩ := run_zero hz w
    obtain ⟨C', hf, hr⟩ := fill_ok (σ := σ) (ρ := a.eval) (E := E) (T := T) (place' := (l.toArray[·]?)) (fun i x hx => by simpa using hx) (fun o x hx => rel_ev hg hT hx) parts.toList xs z r zv.cells hp (hz2 σ) hput
    have hm := fields_at hl w
    have hm' : (Array.mapM (fun f : Field => Prod.mk f.offset <$> sizeOf f.type) fs).run P w = .ok l.toArray w := by
      rw [Array.mapM_eq_mapM_toList]; simp [hm]
    exact .still h (v' := .agg C') (by
      simp only [List.getElem?_toArray] at hf
      simp [execOp, ho, Instr.build, hz1, run_underlying hd, hm', hf]) ⟨C', rfl, hr⟩

theorem op_build_array (h : WF σ H w) (hg : globOk E σ) (hT : relL σ T a.tmps.toList) {t e : TypeId} {n : Nat} {parts : Array (Nat × Operand)} {z : List XV} {s : Nat} {xs : List (Nat × Nat × XO)}
    (ho : o.op = .build t parts) (hd : P.underlying t = some (.array n e)) (hz : cZero P t = some z) (hs : cSize P e = some s) (hp : cParts (fun i => some (i * s, s)) parts.toList = some xs)
    {v : XV} {K : Heap} {call : CallF} (hv : xop E call (.build z xs) T H = some (.val v K)) : OpRes P o a σ H w v K := by
  simp only [xop] at hv
  obtain ⟨hb, rfl⟩ := okv_eq hv
  cases hput : putParts z (xs.map fun (o, s, x) => (o, s, ev E T x)) with
  | none => simp [hput] at hb
  | some r =>
    simp [hput] at hb
    subst hb
    obtain ⟨zv, hz1, hz2⟩ := run_zero hz w
    obtain ⟨C', hf, hr⟩ := fill_ok (σ := σ) (ρ := a.eval) (E := E) (T := T) (place' := fun i => some (i * s, s)) (fun i x hx => hx) (fun o x hx => rel_ev hg hT hx) parts.toList xs z r zv.cells hp (hz2 σ) hput
    exact .still h (v' := .agg C') (by simp [execOp, ho, Instr.build, hz1, run_underlying hd, run_size hs, hf]) ⟨C', rfl, hr⟩

theorem repCells_length (z : List XV) : ∀ n, (repCells z n).length = n * z.length
  | 0 => by simp [repCells]
  | n + 1 => by simp [repCells, repCells_length z n, Nat.succ_mul, Nat.add_comm]

theorem relL_rep {σ : Ctx} {z : List XV} {zs : Array Value} (hz : relL σ z zs.toList) (n : Nat) : relL σ (repCells z n) ((Array.range (n * z.length)).map (zs[· % zs.size]!)).toList := by
  have hl : zs.size = z.length := by simpa using relL_length hz
  have hget : ∀ n i, (repCells z n)[i]? = if i < n * z.length then z[i % z.length]? else none := by
    intro n
    induction n with
    | zero => intro i; simp [repCells]
    | succ n ih =>
      intro i
      simp only [repCells]
      by_cases hi : i < z.length
      · rw [List.getElem?_append_left hi, if_pos (by rw [Nat.succ_mul]; omega), Nat.mod_eq_of_lt hi]
      · rw [List.getElem?_append_right (by omega), ih]
        rw [Nat.succ_mul]
        by_cases h2 : i - z.length < n * z.length
        · rw [if_pos h2, if_pos (by omega)]
          congr 1
          exact (Nat.mod_eq_sub_mod (by omega)).symm
        · rw [if_neg h2, if_neg (by omega)]
  refine relL_of_get (by simp [repCells_length]) fun i x v hx hv => ?_
  rw [hget] at hx
  split at hx
  · rename_i hi
    have hv' : zs[i % zs.size]! = v := by
      have : i < n * z.length := hi
      simpa [this] using hv
    rw [hl] at hv'
    obtain ⟨u, hu, hr⟩ := relL_get _ hz hx
    have hu' : zs[i % z.length]? = some u := by simpa using hu
    rw [Array.getElem!_eq_getD, Array.getD_eq_getD_getElem?, hu'] at hv'
    simp at hv'
    rw [← hv']
    exact hr
  · cases hx

theorem op_bslice (h : WF σ H w) (hg : globOk E σ) (hT : relL σ T a.tmps.toList) {t e : TypeId} {n : Nat} {parts : Array (Nat × Operand)} {z : List XV} {s : Nat} {xs : List (Nat × Nat × XO)}
    (ho : o.op = .buildSlice t n parts) (hd : P.underlying t = some (.slice e)) (hz : cZero P e = some z) (hs : cSize P e = some s) (hlim : n * s ≤ 2 ^ 24) (hzs : z.length = s) (hp : cParts (fun i => some (i * s, s)) parts.toList = some xs)
    {v : XV} {K : Heap} {call : CallF} (hv : xop E call (.bslice s n z xs) T H = some (.val v K)) : OpRes P o a σ H w v K := by
  simp only [xop] at hv
  cases hput : putParts (repCells z n) (xs.map fun (o, s, x) => (o, s, ev E T x)) with
  | none => simp [hput] at hv
  | some r =>
    simp [hput] at hv
    obtain ⟨rfl, rfl⟩ := hv
    obtain ⟨zv, hz1, hz2⟩ := run_zero hz w
    have hrep := relL_rep (hz2 σ) n
    rw [hzs] at hrep
    have hzsz : zv.cells.size = s := by have := relL_length (hz2 σ); simp at this; omega
    obtain ⟨C', hf, hr⟩ := fill_ok (σ := σ) (ρ := a.eval) (E := E) (T := T) (place' := fun i => some (i * s, s)) (fun i x hx => hx) (fun o x hx => rel_ev hg hT hx) parts.toList xs _ r _ hp hrep hput
    have hC : C'.size = r.length := by simpa using relL_length hr
    have hrl : r.length = n * s := by
      have hpl : ∀ (ps : List (Nat × Nat × XV)) (cs r : List XV), putParts cs ps = some r → r.length = cs.length := by
        intro ps
        induction ps with
        | nil => intro cs r h; simp [putParts] at h; rw [h]
        | cons p ps ih =>
          intro cs r h
          obtain ⟨off, sz, x⟩ := p
          simp only [putParts] at h
          split at h
          · rename_i hk
            rw [ih _ _ h]
            simp [putAt, hk.1]; omega
          · cases h
      rw [hpl _ _ _ hput, repCells_length, hzs]
    obtain ⟨h1, h2, _⟩ := newRes (xs := r) (C := C') (e := e) (u := w.alloc (.cells C' e (0, 0))) h rfl (by omega) (by rw [List.take_of_length_le (by simp; omega)]; exact hr)
    refine ⟨.slice (some ⟨w.heap.size, 0, none⟩) n n, w.alloc (.cells C' e (0, 0)), _, .inl ?_, ⟨_, _, _, h2, 0, n, rfl, Nat.le_refl _, .inl ⟨by simp, by omega⟩⟩, h1⟩
    by_cases hz0 : n * s = 0
    · have e0 : ∀ g : Nat → Value, (Array.range (n * s)).map g = #[] := by intro g; rw [hz0]; simp
      have e1 : ∀ g : Nat → Value, (Array.range 0).map g = #[] := by intro g; simp
      rw [e0] at hf
      have hb : (Instr.buildSlice t n (parts.map fun (i, x) => (i, a.eval x))).run P w = .ok (.slice (some ⟨w.heap.size, 0, none⟩) n n) (w.alloc (.cells C' e (0, 0))) := by
        simp only [Instr.buildSlice, Sem.run_bind, run_underlying hd, Result.andThen_ok, run_size hs, gt_iff_lt]
        rw [if_neg (by omega)]
        simp only [Sem.run_bind, Sem.run_pure, Result.andThen_ok, hz0, if_true, e1]
        simp [hf, newRow]
      simp only [execOp, ho, Sem.run_bind, hb, Result.andThen_ok, Sem.run_pure]
    · have hb : (Instr.buildSlice t n (parts.map fun (i, x) => (i, a.eval x))).run P w = .ok (.slice (some ⟨w.heap.size, 0, none⟩) n n) (w.alloc (.cells C' e (0, 0))) := by
        simp only [Instr.buildSlice, Sem.run_bind, run_underlying hd, Result.andThen_ok, run_size hs, gt_iff_lt]
        rw [if_neg (by omega)]
        simp only [Sem.run_bind, Sem.run_pure, Result.andThen_ok, if_neg hz0, hz1]
        generalize (Array.range (n * s)).map (fun x => zv.cells[x % zv.cells.size]!) = C0 at hf ⊢
        simp [hf, newRow]
      simp only [execOp, ho, Sem.run_bind, hb, Result.andThen_ok, Sem.run_pure]

end
end Go.X
