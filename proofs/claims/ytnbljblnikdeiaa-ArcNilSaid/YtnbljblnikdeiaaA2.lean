/- The abstract machine: its operations. -/
import Derived.Test.YtnbljblnikdeiaaA1
namespace Go.Proofs.Ytnbljblnikdeiaa
namespace Abs
set_option linter.unusedVariables false

inductive Opd where
  | t (i : Nat)
  | c (v : V)

/-- How two values of a type are compared. -/
inductive FK where
  | bool | int | str | ptr | slice | map | func
  deriving DecidableEq
inductive EqD where
  | flat (k : FK)                          -- bools, integers, strings, nil against a reference
  | struct (fs : List (Nat × Option Nat × EqD))  -- offset, cells of a part that is an aggregate, its own comparison

inductive K where
  | mv (x : Opd)
  | pick (c a b : Opd)
  | alloc (zero : List V)
  | box (x : Opd)
  | build (zero : List V) (parts : List (Nat × Nat × Opd))
  | buildSl (zero : List V) (len : Nat) (parts : List (Nat × Nat × Opd))
  | load (n : Option Nat) (a : Opd)
  | store (n : Nat) (a x : Opd)
  | nilck (x : Opd)
  | bin (op : BinOp) (x y : Opd)
  | eq (neg : Bool) (d : EqD) (x y : Opd)
  | not (x : Opd)
  | neg (x : Opd)
  | inv (x : Opd)
  | toInt (k : IntKind) (x : Opd)
  | same (x : Opd)
  | toStr (x : Opd)
  | toBytes (x : Opd)
  | sliceStr (x : Opd) (lo hi : Option Opd)
  | sliceSl (sz : Nat) (x : Opd) (lo hi mx : Option Opd)
  | sliceArr (n sz : Nat) (x : Opd) (lo hi : Option Opd)
  | fieldAddr (off : Nat) (x : Opd)
  | field (off : Nat) (n : Option Nat) (x : Opd)
  | idxSl (sz : Nat) (x i : Opd)
  | idxArr (n sz : Nat) (x i : Opd)
  | atStr (x i : Opd)
  | atArr (n sz : Nat) (agg : Option Nat) (x i : Opd)
  | lenStr (x : Opd)
  | lenSl (x : Opd)
  | min2 (x y : Opd)
  | max2 (x y : Opd)
  | append (sz bytes : Nat) (x y : Opd)
  | appendS (x y : Opd)
  | copy (sz : Nat) (x y : Opd)
  | clear (sz : Nat) (zero : List V) (x : Opd)
  | makeSl (sz bytes : Nat) (zero : List V) (l c : Opd)
  | makeMap
  | lookup (kk : FK) (zero : V) (ok : Bool) (m k : Opd)
  | mapUpd (kk : FK) (m k v : Opd)
  | mapDel (kk : FK) (m k : Opd)
  | mapLen (m : Opd)
  | mkFn (fn : Fn) (first caps : List Opd)
  | extract (i : Nat) (x : Opd)
  | mkIface (t : Nat) (x : Opd)
  | call (f : Opd) (args : List Opd)

structure AOp where
  dst : Option Nat
  guard : Option (Nat × Bool)
  k : K

/-- An operation of a region whose order is drawn: its number in the text, and the places of those that are sure to come ahead of it. -/
structure DOp where
  o : AOp
  idx : Nat
  anc : List Nat

inductive AC where
  | skip
  | ops (l : List AOp)
  | draw (l : List DOp)
  | seq (a b : AC)
  | cond (x : Opd) (a b : AC)
  | block (id : Nat) (c : AC)
  | loop (c : AC)
  | exit (id : Nat)
  | ret

inductive Res where
  | tmp (t : Nat)
  | cell (t : Nat) (n : Option Nat)

structure AFunc where
  nparams : Nat
  results : List Res
  body : AC

def ev (tm : TM) : Opd → Option V
  | .t i => tm.get i
  | .c v => some v

def evs (tm : TM) : List Opd → Option (List V)
  | [] => some []
  | x :: r => match ev tm x, evs tm r with
    | some v, some vs => some (v :: vs)
    | _, _ => none

def evo (tm : TM) : Option Opd → Option (Option V)
  | none => some none
  | some x => match ev tm x with
    | some v => some (some v)
    | none => none

def V.cellsOf : V → List V
  | .agg vs => vs
  | v => [v]

def undefV : V := .tuple []

/-! ### What single operations come to -/

def fillV (cells : List V) : List (Nat × Nat × V) → Option (List V)
  | [] => some cells
  | (off, size, v) :: r => if v.cellsOf.length = size ∧ off + size ≤ cells.length then fillV (splice cells off v.cellsOf) r else none

def evParts (tm : TM) : List (Nat × Nat × Opd) → Option (List (Nat × Nat × V))
  | [] => some []
  | (o, s, x) :: r => match ev tm x, evParts tm r with
    | some v, some vs => some ((o, s, v) :: vs)
    | _, _ => none

def aggOf (n : Option Nat) (cs : List V) (off : Nat) : Option V :=
  match n with
  | none => cs[off]?
  | some n => if off + n ≤ cs.length then some (.agg ((cs.drop off).take n)) else none

def loadA (h : Heap) (n : Option Nat) (v : V) : Option V :=
  match v with
  | .ptr (some (b, o)) =>
    match n with
    | none => h.rd b o
    | some n => match h.rds b o n with
      | some cs => some (.agg cs)
      | none => none
  | _ => none

def storeA (h : Heap) (n : Nat) (a x : V) : Option Heap :=
  match a with
  | .ptr (some (b, o)) => if x.cellsOf.length = n then h.wr b o x.cellsOf else none
  | _ => none

def shiftA (op : BinOp) (k : IntKind) (x y : Int) : Option V :=
  if y < 0 then none else
  match op with
  | .shl => some (.int k (k.wrap (x * 2 ^ (min y.toNat k.bits))))
  | .shr => some (.int k (x.fdiv (2 ^ (min y.toNat k.bits))))
  | _ => none

def binA (op : BinOp) (x y : V) : Option V :=
  match x, y with
  | .int k a, .int k' b =>
    match op with
    | .shl | .shr => shiftA op k a b
    | .add => if k = k' then some (.int k (k.wrap (a + b))) else none
    | .sub => if k = k' then some (.int k (k.wrap (a - b))) else none
    | .mul => if k = k' then some (.int k (k.wrap (a * b))) else none
    | .quo => if k = k' ∧ b ≠ 0 then some (.int k (k.wrap (a.tdiv b))) else none
    | .rem => if k = k' ∧ b ≠ 0 then some (.int k (a.tmod b)) else none
    | .and => if k = k' then some (.int k (k.wrap (BitVec.ofInt k.bits a &&& BitVec.ofInt k.bits b).toNat)) else none
    | .or => if k = k' then some (.int k (k.wrap (BitVec.ofInt k.bits a ||| BitVec.ofInt k.bits b).toNat)) else none
    | .xor => if k = k' then some (.int k (k.wrap (BitVec.ofInt k.bits a ^^^ BitVec.ofInt k.bits b).toNat)) else none
    | .andNot => if k = k' then some (.int k (k.wrap (BitVec.ofInt k.bits a &&& ~~~ BitVec.ofInt k.bits b).toNat)) else none
    | .eql => if k = k' then some (.bool (a == b)) else none
    | .neq => if k = k' then some (.bool (a != b)) else none
    | .lss => if k = k' then some (.bool (decide (a < b))) else none
    | .leq => if k = k' then some (.bool (decide (a ≤ b))) else none
    | .gtr => if k = k' then some (.bool (decide (a > b))) else none
    | .geq => if k = k' then some (.bool (decide (a ≥ b))) else none
  | .str a, .str b =>
    match op with
    | .add => if a.length + b.length ≤ 4611686018427387904 then some (.str (a ++ b)) else none
    | .eql => some (.bool (beqL a b))
    | .neq => some (.bool (!beqL a b))
    | .lss => some (.bool (lessL a b))
    | .leq => some (.bool (lessL a b || beqL a b))
    | .gtr => some (.bool (!(lessL a b || beqL a b)))
    | .geq => some (.bool (!lessL a b))
    | _ => none
  | _, _ => none

/-- Flat comparison: bools, integers, strings; a reference against nil. -/
def flatEq (k : FK) (x y : V) : Option Bool :=
  match k, x, y with
  | .bool, .bool a, .bool b => some (a == b)
  | .int, .int k a, .int k' b => if k = k' then some (a == b) else none
  | .str, .str a, .str b => some (beqL a b)
  | .ptr, .ptr none, .ptr b => some b.isNone
  | .ptr, .ptr (some _), .ptr none => some false
  | .ptr, .ptr (some (b, o)), .ptr (some (b', o')) => if b = b' then some (o == o') else none
  | .slice, .slice none _ _, .slice b _ _ => some b.isNone
  | .slice, .slice (some _) _ _, .slice none _ _ => some false
  | .slice, .slice none _ _, .oslice .. => some false
  | .slice, .oslice .., .slice none _ _ => some false
  | .map, .map none, .map b => some b.isNone
  | .map, .map (some _), .map none => some false
  | .func, .nilFunc, .nilFunc => some true
  | .func, .nilFunc, .func .. => some false
  | .func, .func .., .nilFunc => some false
  | _, _, _ => none

mutual
def eqA : EqD → V → V → Option Bool
  | .flat k, x, y => flatEq k x y
  | .struct fs, .agg xs, .agg ys => eqAs fs xs ys
  | .struct _, _, _ => none
def eqAs : List (Nat × Option Nat × EqD) → List V → List V → Option Bool
  | [], _, _ => some true
  | (off, n, d) :: r, xs, ys =>
    match aggOf n xs off, aggOf n ys off with
    | some x, some y =>
      match eqA d x y with
      | some true => eqAs r xs ys
      | some false => some false
      | none => none
    | _, _ => none
end

def intV : V → Option Int
  | .int _ n => some n
  | _ => none

/-- Bounds of a slice expression, where the greatest bound is known to be 'cap' (or at least 'cap' if 'opn'). -/
def boundsA (len cap : Nat) (lo hi : Option V) : Option (Nat × Nat) :=
  let h : Option Nat := match hi with
    | none => some len
    | some v => match intV v with
      | some i => if 0 ≤ i ∧ i ≤ cap then some i.toNat else none
      | none => none
  match h with
  | none => none
  | some h =>
    match lo with
    | none => some (0, h)
    | some v => match intV v with
      | some i => if 0 ≤ i ∧ i ≤ h then some (i.toNat, h) else none
      | none => none

def sliceSlA (sz : Nat) (x : V) (lo hi mx : Option V) : Option V :=
  match x with
  | .slice a len cap =>
    match mx with
    | none => match boundsA len cap lo hi with
      | some (l, h) => some (.slice (a.map fun p => (p.1, p.2 + l * sz)) (h - l) (cap - l))
      | none => none
    | some m => match intV m with
      | some m => if 0 ≤ m ∧ m ≤ cap ∧ hi.isSome = true then
          match boundsA len m.toNat lo hi with
          | some (l, h) => some (.slice (a.map fun p => (p.1, p.2 + l * sz)) (h - l) (m.toNat - l))
          | none => none
        else none
      | none => none
  | .oslice b o len cap z =>
    if z = sz ∨ z = 0 then
    match mx with
    | none => match boundsA len cap lo hi with
      | some (l, h) => some (.oslice b (o + l * sz) (h - l) (cap - l) z)
      | none => none
    | some m => match intV m with
      | some m => if 0 ≤ m ∧ m ≤ cap ∧ hi.isSome = true then
          match boundsA len m.toNat lo hi with
          | some (l, h) => some (.slice (some (b, o + l * sz)) (h - l) (m.toNat - l))
          | none => none
        else none
      | none => none
    else none
  | _ => none

def sliceStrA (x : V) (lo hi : Option V) : Option V :=
  match x with
  | .str s => match boundsA s.length s.length lo hi with
    | some (l, h) => some (.str ((s.drop l).take (h - l)))
    | none => none
  | _ => none

def sliceArrA (n sz : Nat) (x : V) (lo hi : Option V) : Option V :=
  match x with
  | .ptr (some (b, o)) => match boundsA n n lo hi with
    | some (l, h) => some (.slice (some (b, o + l * sz)) (h - l) (n - l))
    | none => none
  | _ => none

/-- The cells of a slice's first n elements. -/
def slCells (h : Heap) (sz n : Nat) : V → Option (List V)
  | .slice none _ _ => some []
  | .slice (some (b, o)) _ _ => if n = 0 then some [] else h.rds b o (n * sz)
  | .oslice b o _ _ _ => if n = 0 then some [] else h.rds b o (n * sz)
  | _ => none

def slLen : V → Option Nat
  | .slice _ n _ => some n
  | .oslice _ _ n _ _ => some n
  | _ => none

def idxSlA (sz : Nat) (x i : V) : Option V :=
  match intV i with
  | some i =>
    match x with
    | .slice (some (b, o)) len _ => if 0 ≤ i ∧ i < len then some (.ptr (some (b, o + i.toNat * sz))) else none
    | .oslice b o len _ _ => if 0 ≤ i ∧ i < len then some (.ptr (some (b, o + i.toNat * sz))) else none
    | _ => none
  | none => none

def idxArrA (n sz : Nat) (x i : V) : Option V :=
  match intV i, x with
  | some i, .ptr (some (b, o)) => if 0 ≤ i ∧ i < n then some (.ptr (some (b, o + i.toNat * sz))) else none
  | _, _ => none

def atStrA (x i : V) : Option V :=
  match x, intV i with
  | .str s, some i => if 0 ≤ i then match s[i.toNat]? with
      | some b => some (.int .u8 b)
      | none => none
    else none
  | _, _ => none

def atArrA (n sz : Nat) (agg : Option Nat) (x i : V) : Option V :=
  match x, intV i with
  | .agg cs, some i => if 0 ≤ i ∧ i < n then aggOf agg cs (i.toNat * sz) else none
  | _, _ => none

/-- How large a slice may come to be. -/
def roomy (need bytes : Nat) : Bool := decide ((2 * need + 2000) * bytes ≤ 281474976710656)

/-- A slice with items behind it: in place where it is sure that there is room; in a new block where it is sure that there is none; where neither is known, the old block may or may not be the new one's: it is then read alone, till the new one is written to. -/
def appendCore (h : Heap) (sz bytes : Nat) (x : V) (n : Nat) (items : List V) : Option (V × Heap) :=
  match x with
  | .slice none _ _ =>
    if n = 0 then some (.slice none 0 0, h)
    else if roomy n bytes = true then some (.oslice h.size 0 n n sz, h.push (.cells items (.tip [] 0))) else none
  | .slice (some (b, o)) len cap =>
    if len + n ≤ cap then
      if n = 0 then some (.slice (some (b, o)) len cap, h)
      else match h.wr b (o + len * sz) items with
        | some h' => some (.slice (some (b, o)) (len + n) cap, h')
        | none => none
    else if roomy (len + n) bytes = true then
      match slCells h sz len x with
      | some old => some (.oslice h.size 0 (len + n) (len + n) sz, h.push (.cells (old ++ items) (.tip [] 0)))
      | none => none
    else none
  | .oslice b o len cap z =>
    if len + n ≤ cap then
      if n = 0 then some (.oslice b o len cap z, h)
      else match h.wr b (o + len * sz) items with
        | some h' => some (.oslice b o (len + n) cap z, h')
        | none => none
    else if z = sz ∧ len ≠ 0 ∧ roomy (len + n) bytes = true then
      match h.get b with
      | some (.cells cs (.tip S fz)) =>
        if o + len * sz = cs.length ∧ fz ≤ cs.length then
          some (.oslice h.size 0 (len + n) (len + n) sz, (h.put b (.cells cs .sup)).push (.cells (cs.drop o ++ items) (.tip (b :: S) (fz - o))))
        else none
      | _ => none
    else none
  | _ => none

def appendA (h : Heap) (sz bytes : Nat) (x y : V) : Option (V × Heap) :=
  match slLen y with
  | some n => match slCells h sz n y with
    | some items => if sz ≠ 0 ∧ bytes ≠ 0 ∧ items.length = n * sz ∧ items.all V.one = true then appendCore h sz bytes x n items else none
    | none => none
  | none => none

def bytesV (s : List Nat) : List V := s.map fun b => .int .u8 (Int.ofNat b)

def appendSA (h : Heap) (x y : V) : Option (V × Heap) :=
  match y with
  | .str s => appendCore h 1 1 x s.length (bytesV s)
  | _ => none

def copyA (h : Heap) (sz : Nat) (x y : V) : Option (V × Heap) :=
  match slLen x, slLen y with
  | some n, some m =>
    match slCells h sz (min m n) y with
    | some items =>
      match x with
      | .slice (some (b, o)) _ _ => if min m n = 0 then some (.int .i64 0, h) else match h.wr b o items with
        | some h' => some (.int .i64 (min m n : Nat), h')
        | none => none
      | .oslice b o _ _ _ => if min m n = 0 then some (.int .i64 0, h) else match h.wr b o items with
        | some h' => some (.int .i64 (min m n : Nat), h')
        | none => none
      | .slice none _ _ => some (.int .i64 (min m n : Nat), h)
      | _ => none
    | none => none
  | _, _ => none

def reps : Nat → List V → List V
  | 0, _ => []
  | n + 1, z => z ++ reps n z

def clearA (h : Heap) (sz : Nat) (zero : List V) (x : V) : Option (V × Heap) :=
  match slLen x with
  | none => none
  | some 0 => some (.tuple [], h)
  | some n =>
    match x with
    | .slice (some (b, o)) _ _ => match h.wr b o (reps n zero) with
      | some h' => some (.tuple [], h')
      | none => none
    | .oslice b o _ _ _ => match h.wr b o (reps n zero) with
      | some h' => some (.tuple [], h')
      | none => none
    | _ => none

def makeSlA (h : Heap) (sz bytes : Nat) (zero : List V) (l c : V) : Option (V × Heap) :=
  match l, c with
  | .int _ l, .int _ c =>
    if 0 ≤ l ∧ l ≤ c ∧ c ≤ 1099511627776 ∧ c * bytes ≤ 140737488355328 then
      some (.slice (some (h.size, 0)) l.toNat c.toNat, h.push (.cells (reps c.toNat zero) (.tip [] 0)))
    else none
  | _, _ => none

def u8s : List V → Option (List Nat)
  | [] => some []
  | .int .u8 n :: r => match u8s r with
    | some l => some ((n.toNat % 256) :: l)
    | none => none
  | _ :: _ => none

def toStrA (h : Heap) (x : V) : Option V :=
  match slLen x with
  | some n => match slCells h 1 n x with
    | some cs => match u8s cs with
      | some l => some (.str l)
      | none => none
    | none => none
  | none => none

def keyOk : V → Bool
  | .int _ _ | .str _ | .bool _ => true
  | _ => false

def findM (k : V) : List (V × V) → Option V
  | [] => none
  | (a, v) :: r => if V.beq k a then some v else findM k r
def updM (k v : V) : List (V × V) → List (V × V)
  | [] => [(k, v)]
  | (a, w) :: r => if V.beq k a then (k, v) :: r else (a, w) :: updM k v r
def delM (k : V) : List (V × V) → List (V × V)
  | [] => []
  | (a, w) :: r => if V.beq k a then r else (a, w) :: delM k r

def mapOf (h : Heap) : V → Option (List (V × V))
  | .map none => some []
  | .map (some b) => match h.get b with
    | some (.map es) => some es
    | _ => none
  | _ => none

def sameKind (kk : FK) (x y : V) : Bool :=
  match kk, x, y with
  | .int, .int k _, .int k' _ => decide (k = k')
  | .str, .str _, .str _ => true
  | .bool, .bool _, .bool _ => true
  | _, _, _ => false

def keysOk (kk : FK) (k : V) (es : List (V × V)) : Bool := sameKind kk k k && es.all fun e => sameKind kk k e.1

def lookV (zero : V) : Option V → V × Bool
  | some v => (v, true)
  | none => (zero, false)

def lookupA (h : Heap) (kk : FK) (zero : V) (ok : Bool) (m k : V) : Option V :=
  match mapOf h m with
  | some es =>
    if keysOk kk k es = true then
      some (if ok then .tuple [(lookV zero (findM k es)).1, .bool (lookV zero (findM k es)).2] else (lookV zero (findM k es)).1)
    else none
  | none => none

def mapUpdA (h : Heap) (kk : FK) (m k v : V) : Option Heap :=
  match m with
  | .map (some b) => match h.get b with
    | some (.map es) => if keysOk kk k es = true then some (h.put b (.map (updM k v es))) else none
    | _ => none
  | _ => none

def mapDelA (h : Heap) (kk : FK) (m k : V) : Option Heap :=
  match m with
  | .map none => some h
  | .map (some b) => match h.get b with
    | some (.map es) => if keysOk kk k es = true then some (h.put b (.map (delM k es))) else none
    | _ => none
  | _ => none

/-- An operation that calls nothing. -/
def opK (k : K) (tm : TM) (h : Heap) : Option (V × Heap) :=
  match k with
  | .mv x => match ev tm x with
    | some v => some (v, h)
    | none => none
  | .pick c a b => match ev tm c with
    | some (.bool t) => match ev tm (if t then a else b) with
      | some v => some (v, h)
      | none => none
    | _ => none
  | .alloc zero => some (.ptr (some (h.size, 0)), h.push (.cells zero (.tip [] 0)))
  | .box x => match ev tm x with
    | some v => some (.ptr (some (h.size, 0)), h.push (.cells v.cellsOf (.tip [] 0)))
    | none => none
  | .build zero parts => match evParts tm parts with
    | some ps => match fillV zero ps with
      | some cs => some (.agg cs, h)
      | none => none
    | none => none
  | .buildSl zero len parts => match evParts tm parts with
    | some ps => match fillV zero ps with
      | some cs => some (.slice (some (h.size, 0)) len len, h.push (.cells cs (.tip [] 0)))
      | none => none
    | none => none
  | .load n a => match ev tm a with
    | some a => match loadA h n a with
      | some v => some (v, h)
      | none => none
    | none => none
  | .store n a x => match ev tm a, ev tm x with
    | some a, some x => match storeA h n a x with
      | some h' => some (undefV, h')
      | none => none
    | _, _ => none
  | .nilck x => match ev tm x with
    | some (.ptr (some p)) => some (.ptr (some p), h)
    | some (.func (.func f) a b) => some (.func (.func f) a b, h)
    | _ => none
  | .bin op x y => match ev tm x, ev tm y with
    | some x, some y => match binA op x y with
      | some v => some (v, h)
      | none => none
    | _, _ => none
  | .eq neg d x y => match ev tm x, ev tm y with
    | some x, some y => match eqA d x y with
      | some b => some (.bool (if neg then !b else b), h)
      | none => none
    | _, _ => none
  | .not x => match ev tm x with
    | some (.bool b) => some (.bool (!b), h)
    | _ => none
  | .neg x => match ev tm x with
    | some (.int k n) => some (.int k (k.wrap (0 - n)), h)
    | _ => none
  | .inv x => match ev tm x with
    | some (.int k n) => some (.int k (k.wrap (BitVec.ofInt k.bits (if k.signed then -1 else k.max) ^^^ BitVec.ofInt k.bits n).toNat), h)
    | _ => none
  | .toInt k x => match ev tm x with
    | some (.int _ n) => some (.int k (k.wrap n), h)
    | _ => none
  | .same x => match ev tm x with
    | some (.str s) => some (.str s, h)
    | _ => none
  | .toStr x => match ev tm x with
    | some x => match toStrA h x with
      | some v => some (v, h)
      | none => none
    | none => none
  | .toBytes x => match ev tm x with
    | some (.str s) => some (.oslice h.size 0 s.length s.length 0, h.push (.cells (bytesV s) (.tip [] 0)))
    | _ => none
  | .sliceStr x lo hi => match ev tm x, evo tm lo, evo tm hi with
    | some x, some lo, some hi => match sliceStrA x lo hi with
      | some v => some (v, h)
      | none => none
    | _, _, _ => none
  | .sliceSl sz x lo hi mx => match ev tm x, evo tm lo, evo tm hi, evo tm mx with
    | some x, some lo, some hi, some mx => match sliceSlA sz x lo hi mx with
      | some v => some (v, h)
      | none => none
    | _, _, _, _ => none
  | .sliceArr n sz x lo hi => match ev tm x, evo tm lo, evo tm hi with
    | some x, some lo, some hi => match sliceArrA n sz x lo hi with
      | some v => some (v, h)
      | none => none
    | _, _, _ => none
  | .fieldAddr off x => match ev tm x with
    | some (.ptr (some (b, o))) => some (.ptr (some (b, o + off)), h)
    | _ => none
  | .field off n x => match ev tm x with
    | some (.agg cs) => match aggOf n cs off with
      | some v => some (v, h)
      | none => none
    | _ => none
  | .idxSl sz x i => match ev tm x, ev tm i with
    | some x, some i => match idxSlA sz x i with
      | some v => some (v, h)
      | none => none
    | _, _ => none
  | .idxArr n sz x i => match ev tm x, ev tm i with
    | some x, some i => match idxArrA n sz x i with
      | some v => some (v, h)
      | none => none
    | _, _ => none
  | .atStr x i => match ev tm x, ev tm i with
    | some x, some i => match atStrA x i with
      | some v => some (v, h)
      | none => none
    | _, _ => none
  | .atArr n sz g x i => match ev tm x, ev tm i with
    | some x, some i => match atArrA n sz g x i with
      | some v => some (v, h)
      | none => none
    | _, _ => none
  | .lenStr x => match ev tm x with
    | some (.str s) => some (.int .i64 s.length, h)
    | _ => none
  | .lenSl x => match ev tm x with
    | some x => match slLen x with
      | some n => some (.int .i64 n, h)
      | none => none
    | none => none
  | .min2 x y => match ev tm x, ev tm y with
    | some (.int k a), some (.int _ b) => some (.int k (if b < a then b else a), h)
    | _, _ => none
  | .max2 x y => match ev tm x, ev tm y with
    | some (.int k a), some (.int _ b) => some (.int k (if b > a then b else a), h)
    | _, _ => none
  | .append sz bytes x y => match ev tm x, ev tm y with
    | some x, some y => appendA h sz bytes x y
    | _, _ => none
  | .appendS x y => match ev tm x, ev tm y with
    | some x, some y => appendSA h x y
    | _, _ => none
  | .copy sz x y => match ev tm x, ev tm y with
    | some x, some y => copyA h sz x y
    | _, _ => none
  | .clear sz zero x => match ev tm x with
    | some x => clearA h sz zero x
    | none => none
  | .makeSl sz bytes zero l c => match ev tm l, ev tm c with
    | some l, some c => makeSlA h sz bytes zero l c
    | _, _ => none
  | .makeMap => some (.map (some h.size), h.push (.map []))
  | .lookup kk zero ok m k => match ev tm m, ev tm k with
    | some m, some k => match lookupA h kk zero ok m k with
      | some v => some (v, h)
      | none => none
    | _, _ => none
  | .mapUpd kk m k v => match ev tm m, ev tm k, ev tm v with
    | some m, some k, some v => match mapUpdA h kk m k v with
      | some h' => some (undefV, h')
      | none => none
    | _, _, _ => none
  | .mapDel kk m k => match ev tm m, ev tm k with
    | some m, some k => match mapDelA h kk m k with
      | some h' => some (.tuple [], h')
      | none => none
    | _, _ => none
  | .mapLen m => match ev tm m with
    | some m => match mapOf h m with
      | some es => some (.int .i64 es.length, h)
      | none => none
    | none => none
  | .mkFn fn first caps => match evs tm first, evs tm caps with
    | some a, some b => some (.func fn a b, h)
    | _, _ => none
  | .extract i x => match ev tm x with
    | some (.tuple vs) => match vs[i]? with
      | some v => some (v, h)
      | none => none
    | _ => none
  | .mkIface t x => match ev tm x with
    | some v => some (.iface t v, h)
    | none => none
  | .call _ _ => none

abbrev CallF := Nat → List V → Heap → Option (V × Heap)

def opA (call : CallF) (k : K) (tm : TM) (h : Heap) : Option (V × Heap) :=
  match k with
  | .call f args => match ev tm f, evs tm args with
    | some (.func (.func f) first caps), some vs => call f (first ++ vs ++ caps) h
    | _, _ => none
  | k => opK k tm h

def wantedA (tm : TM) : Option (Nat × Bool) → Option Bool
  | none => some true
  | some (t, want) => match tm.get t with
    | some (.bool b) => some (b == want)
    | some (.tuple []) => some false
    | _ => none

def TM.put (tm : TM) (dst : Option Nat) (v : V) : TM :=
  match dst with
  | some d => tm.set d v
  | none => tm

def stepOp (call : CallF) (o : AOp) (tm : TM) (h : Heap) : Option (TM × Heap) :=
  match wantedA tm o.guard with
  | some true => match opA call o.k tm h with
    | some (v, h') => some (TM.put tm o.dst v, h')
    | none => none
  | some false => some (TM.put tm o.dst undefV, h)
  | none => none

def runOps (call : CallF) : List AOp → TM → Heap → Option (TM × Heap)
  | [], tm, h => some (tm, h)
  | o :: r, tm, h => match stepOp call o tm h with
    | some (tm', h') => runOps call r tm' h'
    | none => none

/-- Does an operation change memory that is there, or call? -/
def K.isC : K → Bool
  | .store .. | .append .. | .appendS .. | .copy .. | .clear .. | .mapUpd .. | .mapDel .. | .call .. => true
  | _ => false
/-- Does it make a block, of what its operands hold alone? -/
def K.isAlloc : K → Bool
  | .alloc .. | .box .. | .buildSl .. | .makeSl .. | .makeMap | .toBytes .. => true
  | _ => false

structure Log where
  o : AOp
  ran : Bool
  tm : TM
  h : Heap
  v : V

def sameObj : Option Obj → Option Obj → Bool
  | some (.cells a (.tip [] z)), some (.cells b (.tip [] z')) => V.beqs a b && z == z'
  | some (.map []), some (.map []) => true
  | _, _ => false

/-- Would this operation, had it come later, have done the same? -/
def okLater (l : Log) (h' : Heap) : Bool :=
  if l.ran then
    if l.o.k.isAlloc then match opK l.o.k l.tm l.h with
      | some (_, h1) => sameObj (h'.get l.h.size) (h1.get l.h.size)
      | none => false
    else match opK l.o.k l.tm h' with
      | some (v, _) => V.beq v l.v
      | none => false
  else true

def okTail (l : Log) (p : Nat) : List (DOp × Log) → Heap → Bool
  | [], hN => okLater l hN
  | (d, l') :: r, hN => if d.o.k.isC then okLater l l'.h && (d.anc.contains p || okTail l p r hN) else okTail l p r hN

def okAll : Nat → List (DOp × Log) → Heap → Bool
  | _, [], _ => true
  | q, (d, l) :: r, hN => (d.o.k.isC || okTail l q r hN) && okAll (q + 1) r hN

/-- The operations of a drawn region, one by one, with what each came to. -/
def traceDraw (call : CallF) : List DOp → TM → Heap → Option (List (DOp × Log) × TM × Heap)
  | [], tm, h => some ([], tm, h)
  | d :: r, tm, h =>
    match wantedA tm d.o.guard with
    | some false => match traceDraw call r (TM.put tm d.o.dst undefV) h with
      | some (tr, tm', h') => some ((d, ⟨d.o, false, tm, h, undefV⟩) :: tr, tm', h')
      | none => none
    | some true => match opA call d.o.k tm h with
      | some (v, h2) => match traceDraw call r (TM.put tm d.o.dst v) h2 with
        | some (tr, tm', h') => some ((d, ⟨d.o, true, tm, h, v⟩) :: tr, tm', h')
        | none => none
      | none => none
    | none => none

def runDraw (call : CallF) (l : List DOp) (tm : TM) (h : Heap) : Option (TM × Heap) :=
  match traceDraw call l tm h with
  | some (tr, tm', h') => if okAll 0 tr h' then some (tm', h') else none
  | none => none

inductive Ex where
  | normal
  | exit (id : Nat)
  | ret

abbrev LoopF := AC → TM → Heap → Option (Ex × TM × Heap)

def execC (call : CallF) (loopk : LoopF) : AC → TM → Heap → Option (Ex × TM × Heap)
  | .skip, tm, h => some (.normal, tm, h)
  | .ops l, tm, h => match runOps call l tm h with
    | some (tm', h') => some (.normal, tm', h')
    | none => none
  | .draw l, tm, h => match runDraw call l tm h with
    | some (tm', h') => some (.normal, tm', h')
    | none => none
  | .seq a b, tm, h => match execC call loopk a tm h with
    | some (.normal, tm', h') => execC call loopk b tm' h'
    | r => r
  | .cond x a b, tm, h => match ev tm x with
    | some (.bool t) => if t then execC call loopk a tm h else execC call loopk b tm h
    | _ => none
  | .block id c, tm, h => match execC call loopk c tm h with
    | some (.exit i, tm', h') => some (if i = id then .normal else .exit i, tm', h')
    | r => r
  | .loop c, tm, h => match execC call loopk c tm h with
    | some (.normal, tm', h') => loopk (.loop c) tm' h'
    | r => r
  | .exit id, tm, h => some (.exit id, tm, h)
  | .ret, tm, h => some (.ret, tm, h)

def resA (tm : TM) (h : Heap) : Res → Option V
  | .tmp t => tm.get t
  | .cell t n => match tm.get t with
    | some a => loadA h n a
    | none => none

def ressA (tm : TM) (h : Heap) : List Res → Option (List V)
  | [] => some []
  | r :: rs => match resA tm h r, ressA tm h rs with
    | some v, some vs => some (v :: vs)
    | _, _ => none

def oneOf : List V → V
  | [v] => v
  | vs => .tuple vs

def argsTM : Nat → List V → TM → TM
  | _, [], tm => tm
  | i, v :: r, tm => argsTM (i + 1) r (tm.set i v)

/-- A call's end: where nothing that was there has changed, and what is handed back names no block of the call's own, memory is as it was. -/
def closeCall (h : Heap) (v : V) (h1 : Heap) : V × Heap :=
  if h.size ≤ h1.low ∧ v.scopd h.size = true then (v, h) else (v, { h1 with low := min h.low h1.low })

structure Cfg where
  F : Nat → Option AFunc
  S : Nat → List V → Heap → Option (Option (V × Heap))

def callBody (exec : LoopF) (af : AFunc) (args : List V) (h : Heap) : Option (V × Heap) :=
  if args.length = af.nparams then
    match exec af.body (argsTM 0 args .nil) { h with low := h.size } with
    | some (.exit _, _, _) => none
    | some (_, tm, h1) => match ressA tm h1 af.results with
      | some vs => some (closeCall h (oneOf vs) h1)
      | none => none
    | none => none
  else none

def run (C : Cfg) : Nat → CallF × LoopF
  | 0 => (fun _ _ _ => none, fun _ _ _ => none)
  | n + 1 =>
    (fun f args h => match C.S f args h with
      | some r => r
      | none => match C.F f with
        | some af => callBody (execC (run C n).1 (run C n).2) af args h
        | none => none,
     execC (run C n).1 (run C n).2)
end Abs
end Go.Proofs.Ytnbljblnikdeiaa
