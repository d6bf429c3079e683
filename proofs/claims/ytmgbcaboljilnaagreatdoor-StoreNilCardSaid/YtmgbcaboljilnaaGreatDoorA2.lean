/- The abstract machine: its operations. -/
import Derived.Test.YtmgbcaboljilnaaGreatDoorA1
namespace Go.Proofs.YtmgbcaboljilnaaGreatDoor
namespace Abs
set_option linter.unusedVariables false
noncomputable section

inductive Res where
  | tmp (t : Nat)
  | cell (t : Nat) (n : Option Nat)

structure AFunc where
  nparams : Nat
  results : List Res
  body : AC

def ev (tm : TM) : Opd → Option V
  | .t i => tm.get i
  | .c v => some v

def evs (tm : TM) : List Opd → Option (List V)
  | [] => some []
  | x :: r => match ev tm x, evs tm r with
    | some v, some vs => some (v :: vs)
    | _, _ => none

def evo (tm : TM) : Option Opd → Option (Option V)
  | none => some none
  | some x => match ev tm x with
    | some v => some (some v)
    | none => none

def V.cellsOf : V → List V
  | .agg vs => vs
  | v => [v]

def undefV : V := .tuple []

/-! ### What single operations come to -/

def fillV (cells : List V) : List (Nat × Nat × V) → Option (List V)
  | [] => some cells
  | (off, size, v) :: r => if v.cellsOf.length = size ∧ off + size ≤ cells.length then fillV (splice cells off v.cellsOf) r else none

def evParts (tm : TM) : List (Nat × Nat × Opd) → Option (List (Nat × Nat × V))
  | [] => some []
  | (o, s, x) :: r => match ev tm x, evParts tm r with
    | some v, some vs => some ((o, s, v) :: vs)
    | _, _ => none

def aggOf (n : Option Nat) (cs : List V) (off : Nat) : Option V :=
  match n with
  | none => cs[off]?
  | some n => if off + n ≤ cs.length then some (.agg ((cs.drop off).take n)) else none

def loadA (h : Heap) (n : Option Nat) (v : V) : Option V :=
  match v with
  | .ptr (some (b, o)) =>
    match n with
    | none => h.rd b o
    | some n => match h.rds b o n with
      | some cs => some (.agg cs)
      | none => none
  | _ => none

def storeA (h : Heap) (n : Nat) (a x : V) : Option Heap :=
  match a with
  | .ptr (some (b, o)) => if x.cellsOf.length = n then h.wr b o x.cellsOf else none
  | _ => none

def shiftA (op : BinOp) (k : IntKind) (x y : Int) : Option V :=
  if y < 0 then none else
  match op with
  | .shl => some (.int k (k.wrap (x * 2 ^ (min y.toNat k.bits))))
  | .shr => some (.int k (x.fdiv (2 ^ (min y.toNat k.bits))))
  | _ => none

def binA (op : BinOp) (x y : V) : Option V :=
  match x, y with
  | .int k a, .int k' b =>
    match op with
    | .shl | .shr => shiftA op k a b
    | .add => if k = k' then some (.int k (k.wrap (a + b))) else none
    | .sub => if k = k' then some (.int k (k.wrap (a - b))) else none
    | .mul => if k = k' then some (.int k (k.wrap (a * b))) else none
    | .quo => if k = k' ∧ b ≠ 0 then some (.int k (k.wrap (a.tdiv b))) else none
    | .rem => if k = k' ∧ b ≠ 0 then some (.int k (a.tmod b)) else none
    | .and => if k = k' then some (.int k (k.wrap (BitVec.ofInt k.bits a &&& BitVec.ofInt k.bits b).toNat)) else none
    | .or => if k = k' then some (.int k (k.wrap (BitVec.ofInt k.bits a ||| BitVec.ofInt k.bits b).toNat)) else none
    | .xor => if k = k' then some (.int k (k.wrap (BitVec.ofInt k.bits a ^^^ BitVec.ofInt k.bits b).toNat)) else none
    | .andNot => if k = k' then some (.int k (k.wrap (BitVec.ofInt k.bits a &&& ~~~ BitVec.ofInt k.bits b).toNat)) else none
    | .eql => if k = k' then some (.bool (a == b)) else none
    | .neq => if k = k' then some (.bool (a != b)) else none
    | .lss => if k = k' then some (.bool (decide (a < b))) else none
    | .leq => if k = k' then some (.bool (decide (a ≤ b))) else none
    | .gtr => if k = k' then some (.bool (decide (a > b))) else none
    | .geq => if k = k' then some (.bool (decide (a ≥ b))) else none
  | .str a, .str b =>
    match op with
    | .add => if a.length + b.length ≤ 4611686018427387904 then some (.str (a ++ b)) else none
    | .eql => some (.bool (beqL a b))
    | .neq => some (.bool (!beqL a b))
    | .lss => some (.bool (lessL a b))
    | .leq => some (.bool (lessL a b || beqL a b))
    | .gtr => some (.bool (!(lessL a b || beqL a b)))
    | .geq => some (.bool (!lessL a b))
    | _ => none
  | _, _ => none

/-- Flat comparison: bools, integers, strings; a reference against nil. -/
def flatEq (k : FK) (x y : V) : Option Bool :=
  match k, x, y with
  | .bool, .bool a, .bool b => some (a == b)
  | .int, .int k a, .int k' b => if k = k' then some (a == b) else none
  | .str, .str a, .str b => some (beqL a b)
  | .ptr, .ptr none, .ptr b => some b.isNone
  | .ptr, .ptr (some _), .ptr none => some false
  | .ptr, .ptr (some (b, o)), .ptr (some (b', o')) => if b = b' then some (o == o') else none
  | .slice, .slice none _ _, .slice b _ _ => some b.isNone
  | .slice, .slice (some _) _ _, .slice none _ _ => some false
  | .slice, .slice none _ _, .oslice .. => some false
  | .slice, .oslice .., .slice none _ _ => some false
  | .map, .map none, .map b => some b.isNone
  | .map, .map (some _), .map none => some false
  | .func, .nilFunc, .nilFunc => some true
  | .func, .nilFunc, .func .. => some false
  | .func, .func .., .nilFunc => some false
  | _, _, _ => none

mutual
def eqA : EqD → V → V → Option Bool
  | .flat k, x, y => flatEq k x y
  | .struct fs, .agg xs, .agg ys => eqAs fs xs ys
  | .struct _, _, _ => none
def eqAs : List (Nat × Option Nat × EqD) → List V → List V → Option Bool
  | [], _, _ => some true
  | (off, n, d) :: r, xs, ys =>
    match aggOf n xs off, aggOf n ys off with
    | some x, some y =>
      match eqA d x y with
      | some true => eqAs r xs ys
      | some false => some false
      | none => none
    | _, _ => none
end

def intV : V → Option Int
  | .int _ n => some n
  | _ => none

/-- Bounds of a slice expression, where the greatest bound is known to be 'cap' (or at least 'cap' if 'opn'). -/
def boundsA (len cap : Nat) (lo hi : Option V) : Option (Nat × Nat) :=
  let h : Option Nat := match hi with
    | none => some len
    | some v => match intV v with
      | some i => if 0 ≤ i ∧ i ≤ cap then some i.toNat else none
      | none => none
  match h with
  | none => none
  | some h =>
    match lo with
    | none => some (0, h)
    | some v => match intV v with
      | some i => if 0 ≤ i ∧ i ≤ h then some (i.toNat, h) else none
      | none => none

def sliceSlA (sz : Nat) (x : V) (lo hi mx : Option V) : Option V :=
  match x with
  | .slice a len cap =>
    match mx with
    | none => match boundsA len cap lo hi with
      | some (l, h) => some (.slice (a.map fun p => (p.1, p.2 + l * sz)) (h - l) (cap - l))
      | none => none
    | some m => match intV m with
      | some m => if 0 ≤ m ∧ m ≤ cap ∧ hi.isSome = true then
          match boundsA len m.toNat lo hi with
          | some (l, h) => some (.slice (a.map fun p => (p.1, p.2 + l * sz)) (h - l) (m.toNat - l))
          | none => none
        else none
      | none => none
  | .oslice b o len cap z =>
    if z = sz ∨ z = 0 then
    match mx with
    | none => match boundsA len cap lo hi with
      | some (l, h) => some (.oslice b (o + l * sz) (h - l) (cap - l) z)
      | none => none
    | some m => match intV m with
      | some m => if 0 ≤ m ∧ m ≤ cap ∧ hi.isSome = true then
          match boundsA len m.toNat lo hi with
          | some (l, h) => some (.slice (some (b, o + l * sz)) (h - l) (m.toNat - l))
          | none => none
        else none
      | none => none
    else none
  | _ => none

def sliceStrA (x : V) (lo hi : Option V) : Option V :=
  match x with
  | .str s => match boundsA s.length s.length lo hi with
    | some (l, h) => some (.str ((s.drop l).take (h - l)))
    | none => none
  | _ => none

def sliceArrA (n sz : Nat) (x : V) (lo hi : Option V) : Option V :=
  match x with
  | .ptr (some (b, o)) => match boundsA n n lo hi with
    | some (l, h) => some (.slice (some (b, o + l * sz)) (h - l) (n - l))
    | none => none
  | _ => none

/-- The cells of a slice's first n elements. -/
def slCells (h : Heap) (sz n : Nat) : V → Option (List V)
  | .slice none _ _ => some []
  | .slice (some (b, o)) _ _ => if n = 0 then some [] else h.rds b o (n * sz)
  | .oslice b o _ _ _ => if n = 0 then some [] else h.rds b o (n * sz)
  | _ => none

def slLen : V → Option Nat
  | .slice _ n _ => some n
  | .oslice _ _ n _ _ => some n
  | _ => none

def idxSlA (sz : Nat) (x i : V) : Option V :=
  match intV i with
  | some i =>
    match x with
    | .slice (some (b, o)) len _ => if 0 ≤ i ∧ i < len then some (.ptr (some (b, o + i.toNat * sz))) else none
    | .oslice b o len _ _ => if 0 ≤ i ∧ i < len then some (.ptr (some (b, o + i.toNat * sz))) else none
    | _ => none
  | none => none

def idxArrA (n sz : Nat) (x i : V) : Option V :=
  match intV i, x with
  | some i, .ptr (some (b, o)) => if 0 ≤ i ∧ i < n then some (.ptr (some (b, o + i.toNat * sz))) else none
  | _, _ => none

def atStrA (x i : V) : Option V :=
  match x, intV i with
  | .str s, some i => if 0 ≤ i then match s[i.toNat]? with
      | some b => some (.int .u8 b)
      | none => none
    else none
  | _, _ => none

def atArrA (n sz : Nat) (agg : Option Nat) (x i : V) : Option V :=
  match x, intV i with
  | .agg cs, some i => if 0 ≤ i ∧ i < n then aggOf agg cs (i.toNat * sz) else none
  | _, _ => none

/-- How large a slice may come to be. -/
def roomy (need bytes : Nat) : Bool := decide ((2 * need + 2000) * bytes ≤ 281474976710656)

/-- A slice with items behind it: in place where it is sure that there is room; in a new block where it is sure that there is none; where neither is known, the old block may or may not be the new one's: it is then read alone, till the new one is written to. -/
def appendCore (h : Heap) (sz bytes : Nat) (tyK : Option Nat) (x : V) (n : Nat) (items : List V) : Option (V × Heap) :=
  match x with
  | .slice none _ _ =>
    if n = 0 then some (.slice none 0 0, h)
    else if roomy n bytes = true then some (.oslice h.size 0 n n sz, h.push (.cells items (.tip [] 0 tyK))) else none
  | .slice (some (b, o)) len cap =>
    if len + n ≤ cap then
      if n = 0 then some (.slice (some (b, o)) len cap, h)
      else match h.wr b (o + len * sz) items with
        | some h' => some (.slice (some (b, o)) (len + n) cap, h')
        | none => none
    else if roomy (len + n) bytes = true then
      match slCells h sz len x with
      | some old => some (.oslice h.size 0 (len + n) (len + n) sz, h.push (.cells (old ++ items) (.tip [] 0 tyK)))
      | none => none
    else none
  | .oslice b o len cap z =>
    if len + n ≤ cap then
      if n = 0 then some (.oslice b o len cap z, h)
      else match h.wr b (o + len * sz) items with
        | some h' => some (.oslice b o (len + n) cap z, h')
        | none => none
    else if z = sz ∧ len ≠ 0 ∧ roomy (len + n) bytes = true then
      match h.get b with
      | some (.cells cs (.tip S fz ty)) =>
        if o + len * sz = cs.length ∧ fz ≤ cs.length then
          some (.oslice h.size 0 (len + n) (len + n) sz, (h.put b (.cells cs .sup)).push (.cells (cs.drop o ++ items) (.tip (b :: S) (fz - o) (joinTy tyK ty o))))
        else none
      | _ => none
    else none
  | _ => none

def appendA (h : Heap) (sz bytes : Nat) (tyK : Option Nat) (x y : V) : Option (V × Heap) :=
  match slLen y with
  | some n => match slCells h sz n y with
    | some items => if sz ≠ 0 ∧ bytes ≠ 0 ∧ items.length = n * sz ∧ items.all V.one = true then appendCore h sz bytes tyK x n items else none
    | none => none
  | none => none

def bytesV (s : List Nat) : List V := s.map fun b => .int .u8 (Int.ofNat b)

def appendSA (h : Heap) (tyK : Option Nat) (x y : V) : Option (V × Heap) :=
  match y with
  | .str s => appendCore h 1 1 tyK x s.length (bytesV s)
  | _ => none

def copyA (h : Heap) (sz : Nat) (x y : V) : Option (V × Heap) :=
  match slLen x, slLen y with
  | some n, some m =>
    match slCells h sz (min m n) y with
    | some items =>
      match x with
      | .slice (some (b, o)) _ _ => if min m n = 0 then some (.int .i64 0, h) else match h.wr b o items with
        | some h' => some (.int .i64 (min m n : Nat), h')
        | none => none
      | .oslice b o _ _ _ => if min m n = 0 then some (.int .i64 0, h) else match h.wr b o items with
        | some h' => some (.int .i64 (min m n : Nat), h')
        | none => none
      | .slice none _ _ => some (.int .i64 (min m n : Nat), h)
      | _ => none
    | none => none
  | _, _ => none

def reps : Nat → List V → List V
  | 0, _ => []
  | n + 1, z => z ++ reps n z

def clearA (h : Heap) (sz : Nat) (zero : List V) (x : V) : Option (V × Heap) :=
  match slLen x with
  | none => none
  | some 0 => some (.tuple [], h)
  | some n =>
    match x with
    | .slice (some (b, o)) _ _ => match h.wr b o (reps n zero) with
      | some h' => some (.tuple [], h')
      | none => none
    | .oslice b o _ _ _ => match h.wr b o (reps n zero) with
      | some h' => some (.tuple [], h')
      | none => none
    | _ => none

def makeSlA (h : Heap) (sz bytes : Nat) (zero : List V) (l c : V) : Option (V × Heap) :=
  match l, c with
  | .int _ l, .int _ c =>
    if 0 ≤ l ∧ l ≤ c ∧ c ≤ 1099511627776 ∧ c * bytes ≤ 140737488355328 then
      some (.slice (some (h.size, 0)) l.toNat c.toNat, h.push (.cells (reps c.toNat zero) (.tip [] 0 none)))
    else none
  | _, _ => none

def u8s : List V → Option (List Nat)
  | [] => some []
  | .int .u8 n :: r => match u8s r with
    | some l => some ((n.toNat % 256) :: l)
    | none => none
  | _ :: _ => none

/-- unsafe.SliceData, where there is room. -/
def sliceDataA : V → Option V
  | .slice none _ _ => some (.ptr none)
  | .slice (some p) _ cap => if cap = 0 then none else some (.ptr (some p))
  | .oslice b o _ cap _ => if cap = 0 then none else some (.ptr (some (b, o)))
  | _ => none
/-- unsafe.String over the head of a row of bytes: they are frozen. -/
def unsStrA (h : Heap) (bt : Nat) (x n : V) : Option (V × Heap) :=
  match n with
  | .int .i64 n =>
    match x with
    | .ptr none => if n = 0 then some (.str [], h) else none
    | .ptr (some (b, o)) =>
      if n = 0 then some (.str [], h) else
      match h.get b with
      | some (.cells cs (.tip S fz ty)) =>
        if 0 < n ∧ n.toNat ≤ cs.length ∧ o = 0 ∧ ty = some bt ∧ n ≤ 9223372036854775807 then
          match u8s (cs.take n.toNat) with
          | some l => some (.str l, h.put b (.cells cs (.tip S (max fz n.toNat) ty)))
          | none => none
        else none
      | _ => none
    | _ => none
  | _ => none
/-- *T to unsafe.Pointer. -/
def unsPA (h : Heap) : V → Bool
  | .ptr (some (b, o)) => match h.get b with
    | some (.cells cs (.tip _ _ _)) => decide (o < cs.length)
    | _ => false
  | _ => false
/-- unsafe.Pointer to *U, where a variable of type U was laid. -/
def ofUnsA (h : Heap) (u n : Nat) : V → Bool
  | .ptr (some (b, o)) => match h.get b with
    | some (.cells cs (.tip _ _ ty)) => decide (o = 0 ∧ ty = some u ∧ n ≤ cs.length)
    | _ => false
  | _ => false

def toStrA (h : Heap) (x : V) : Option V :=
  match slLen x with
  | some n => match slCells h 1 n x with
    | some cs => match u8s cs with
      | some l => some (.str l)
      | none => none
    | none => none
  | none => none

def keyOk : V → Bool
  | .int _ _ | .str _ | .bool _ => true
  | _ => false

def findM (k : V) : List (V × V) → Option V
  | [] => none
  | (a, v) :: r => if V.beq k a then some v else findM k r
def updM (k v : V) : List (V × V) → List (V × V)
  | [] => [(k, v)]
  | (a, w) :: r => if V.beq k a then (k, v) :: r else (a, w) :: updM k v r
def delM (k : V) : List (V × V) → List (V × V)
  | [] => []
  | (a, w) :: r => if V.beq k a then r else (a, w) :: delM k r

def delB (k : V) : List (V × V) → List Nat → List Nat
  | (a, _) :: r, b :: s => if V.beq k a then s else b :: delB k r s
  | _, s => s
/-- When an entry was made. -/
def bornM (k : V) : List (V × V) → List Nat → Option Nat
  | (a, _) :: r, b :: s => if V.beq k a then some b else bornM k r s
  | _, _ => none
/-- Another value at an entry that was made then. -/
def setB (n : Nat) (v : V) : List (V × V) → List Nat → Option (List (V × V))
  | (a, w) :: r, b :: s => if b = n then some ((a, v) :: r) else match setB n v r s with
    | some l => some ((a, w) :: l)
    | none => none
  | _, _ => none

def mapOf (h : Heap) : V → Option (List (V × V))
  | .map none => some []
  | .map (some b) => match h.get b with
    | some (.map es _ _) => some es
    | _ => none
  | _ => none

def sameKind (kk : FK) (x y : V) : Bool :=
  match kk, x, y with
  | .int, .int k _, .int k' _ => decide (k = k')
  | .str, .str _, .str _ => true
  | .bool, .bool _, .bool _ => true
  | _, _, _ => false

def keysOk (kk : FK) (k : V) (es : List (V × V)) : Bool := sameKind kk k k && es.all fun e => sameKind kk k e.1

def lookV (zero : V) : Option V → V × Bool
  | some v => (v, true)
  | none => (zero, false)

def lookupA (h : Heap) (kk : FK) (zero : V) (ok : Bool) (m k : V) : Option V :=
  match mapOf h m with
  | some es =>
    if keysOk kk k es = true then
      some (if ok then .tuple [(lookV zero (findM k es)).1, .bool (lookV zero (findM k es)).2] else (lookV zero (findM k es)).1)
    else none
  | none => none

def mapUpdA (h : Heap) (kk : FK) (m k v : V) : Option Heap :=
  match m with
  | .map (some b) => match h.get b with
    | some (.map es bs cl) => if keysOk kk k es = true then some (h.put b (match findM k es with
      | some _ => .map (updM k v es) bs cl
      | none => .map (updM k v es) (bs ++ [cl]) (cl + 1))) else none
    | _ => none
  | _ => none

def mapDelA (h : Heap) (kk : FK) (m k : V) : Option Heap :=
  match m with
  | .map none => some h
  | .map (some b) => match h.get b with
    | some (.map es bs cl) => if keysOk kk k es = true then some (h.put b (.map (delM k es) (delB k es bs) cl)) else none
    | _ => none
  | _ => none

/-- An entry that is there, or is made: its value, and when it was made. -/
def mapEntA (h : Heap) (kk : FK) (zero m k : V) : Option (V × Heap) :=
  match m with
  | .map (some b) => match h.get b with
    | some (.map es bs cl) => if keysOk kk k es = true then match findM k es, bornM k es bs with
        | some v, some n => some (.tuple [v, .int .i64 n], h.put b (.map (updM k v es) bs cl))
        | none, _ => some (.tuple [zero, .int .i64 cl], h.put b (.map (updM k zero es) (bs ++ [cl]) (cl + 1)))
        | _, _ => none
      else none
    | _ => none
  | _ => none
def entStA (h : Heap) (m s x : V) : Option Heap :=
  match m, s with
  | .map (some b), .int _ n => match h.get b with
    | some (.map es bs cl) => if 0 ≤ n then match setB n.toNat x es bs with
        | some es' => some (h.put b (.map es' bs cl))
        | none => none
      else none
    | _ => none
  | _, _ => none
/-- The method of a dynamic type. -/
def methA (t : Nat) : List (Nat × Nat) → Option Nat
  | [] => none
  | (u, f) :: r => if u = t then some f else methA t r
def minNA (mx : Bool) : Int → List V → Option Int
  | a, [] => some a
  | a, .int _ b :: r => minNA mx (if mx then (if b > a then b else a) else (if b < a then b else a)) r
  | _, _ => none

/-- An operation that calls nothing. -/
def opK (k : K) : TM → Heap → Option (V × Heap) :=
  match k with
  | .mv x => fun tm h => match ev tm x with
    | some v => some (v, h)
    | none => none
  | .pick c a b => fun tm h => match ev tm c with
    | some (.bool t) => match ev tm (if t then a else b) with
      | some v => some (v, h)
      | none => none
    | _ => none
  | .alloc ty zero => fun tm h => some (.ptr (some (h.size, 0)), h.push (.cells zero (.tip [] 0 ty)))
  | .bad => fun tm h => none
  | .sliceData x => fun tm h => match ev tm x with
    | some x => match sliceDataA x with
      | some v => some (v, h)
      | none => none
    | none => none
  | .unsStr bt x n => fun tm h => match ev tm x, ev tm n with
    | some x, some n => unsStrA h bt x n
    | _, _ => none
  | .unsP x => fun tm h => match ev tm x with
    | some x => if unsPA h x = true then some (x, h) else none
    | none => none
  | .ofUns u n x => fun tm h => match ev tm x with
    | some x => if ofUnsA h u n x = true then some (x, h) else none
    | none => none
  | .box x => fun tm h => match ev tm x with
    | some v => some (.ptr (some (h.size, 0)), h.push (.cells v.cellsOf (.tip [] 0 none)))
    | none => none
  | .build zero parts => fun tm h => match evParts tm parts with
    | some ps => match fillV zero ps with
      | some cs => some (.agg cs, h)
      | none => none
    | none => none
  | .buildSl zero len parts => fun tm h => match evParts tm parts with
    | some ps => match fillV zero ps with
      | some cs => some (.slice (some (h.size, 0)) len len, h.push (.cells cs (.tip [] 0 none)))
      | none => none
    | none => none
  | .load n a => fun tm h => match ev tm a with
    | some a => match loadA h n a with
      | some v => some (v, h)
      | none => none
    | none => none
  | .store n a x => fun tm h => match ev tm a, ev tm x with
    | some a, some x => match storeA h n a x with
      | some h' => some (undefV, h')
      | none => none
    | _, _ => none
  | .nilck x => fun tm h => match ev tm x with
    | some (.ptr (some p)) => some (.ptr (some p), h)
    | some (.func (.func f) a b) => some (.func (.func f) a b, h)
    | _ => none
  | .bin op x y => fun tm h => match ev tm x, ev tm y with
    | some x, some y => match binA op x y with
      | some v => some (v, h)
      | none => none
    | _, _ => none
  | .eq neg d x y => fun tm h => match ev tm x, ev tm y with
    | some x, some y => match eqA d x y with
      | some b => some (.bool (if neg then !b else b), h)
      | none => none
    | _, _ => none
  | .not x => fun tm h => match ev tm x with
    | some (.bool b) => some (.bool (!b), h)
    | _ => none
  | .neg x => fun tm h => match ev tm x with
    | some (.int k n) => some (.int k (k.wrap (0 - n)), h)
    | _ => none
  | .inv x => fun tm h => match ev tm x with
    | some (.int k n) => some (.int k (k.wrap (BitVec.ofInt k.bits (if k.signed then -1 else k.max) ^^^ BitVec.ofInt k.bits n).toNat), h)
    | _ => none
  | .toInt k x => fun tm h => match ev tm x with
    | some (.int _ n) => some (.int k (k.wrap n), h)
    | _ => none
  | .same x => fun tm h => match ev tm x with
    | some (.str s) => some (.str s, h)
    | _ => none
  | .toStr x => fun tm h => match ev tm x with
    | some x => match toStrA h x with
      | some v => some (v, h)
      | none => none
    | none => none
  | .toBytes x => fun tm h => match ev tm x with
    | some (.str s) => some (.oslice h.size 0 s.length s.length 0, h.push (.cells (bytesV s) (.tip [] 0 none)))
    | _ => none
  | .sliceStr x lo hi => fun tm h => match ev tm x, evo tm lo, evo tm hi with
    | some x, some lo, some hi => match sliceStrA x lo hi with
      | some v => some (v, h)
      | none => none
    | _, _, _ => none
  | .sliceSl sz x lo hi mx => fun tm h => match ev tm x, evo tm lo, evo tm hi, evo tm mx with
    | some x, some lo, some hi, some mx => match sliceSlA sz x lo hi mx with
      | some v => some (v, h)
      | none => none
    | _, _, _, _ => none
  | .sliceArr n sz x lo hi => fun tm h => match ev tm x, evo tm lo, evo tm hi with
    | some x, some lo, some hi => match sliceArrA n sz x lo hi with
      | some v => some (v, h)
      | none => none
    | _, _, _ => none
  | .fieldAddr off x => fun tm h => match ev tm x with
    | some (.ptr (some (b, o))) => some (.ptr (some (b, o + off)), h)
    | _ => none
  | .field off n x => fun tm h => match ev tm x with
    | some (.agg cs) => match aggOf n cs off with
      | some v => some (v, h)
      | none => none
    | _ => none
  | .idxSl sz x i => fun tm h => match ev tm x, ev tm i with
    | some x, some i => match idxSlA sz x i with
      | some v => some (v, h)
      | none => none
    | _, _ => none
  | .idxArr n sz x i => fun tm h => match ev tm x, ev tm i with
    | some x, some i => match idxArrA n sz x i with
      | some v => some (v, h)
      | none => none
    | _, _ => none
  | .atStr x i => fun tm h => match ev tm x, ev tm i with
    | some x, some i => match atStrA x i with
      | some v => some (v, h)
      | none => none
    | _, _ => none
  | .atArr n sz g x i => fun tm h => match ev tm x, ev tm i with
    | some x, some i => match atArrA n sz g x i with
      | some v => some (v, h)
      | none => none
    | _, _ => none
  | .lenStr x => fun tm h => match ev tm x with
    | some (.str s) => some (.int .i64 s.length, h)
    | _ => none
  | .lenSl x => fun tm h => match ev tm x with
    | some x => match slLen x with
      | some n => some (.int .i64 n, h)
      | none => none
    | none => none
  | .min2 x y => fun tm h => match ev tm x, ev tm y with
    | some (.int k a), some (.int _ b) => some (.int k (if b < a then b else a), h)
    | _, _ => none
  | .max2 x y => fun tm h => match ev tm x, ev tm y with
    | some (.int k a), some (.int _ b) => some (.int k (if b > a then b else a), h)
    | _, _ => none
  | .append sz bytes ty x y => fun tm h => match ev tm x, ev tm y with
    | some x, some y => appendA h sz bytes ty x y
    | _, _ => none
  | .appendS ty x y => fun tm h => match ev tm x, ev tm y with
    | some x, some y => appendSA h ty x y
    | _, _ => none
  | .copy sz x y => fun tm h => match ev tm x, ev tm y with
    | some x, some y => copyA h sz x y
    | _, _ => none
  | .clear sz zero x => fun tm h => match ev tm x with
    | some x => clearA h sz zero x
    | none => none
  | .makeSl sz bytes zero l c => fun tm h => match ev tm l, ev tm c with
    | some l, some c => makeSlA h sz bytes zero l c
    | _, _ => none
  | .makeMap => fun tm h => some (.map (some h.size), h.push (.map [] [] 0))
  | .lookup kk zero ok m k => fun tm h => match ev tm m, ev tm k with
    | some m, some k => match lookupA h kk zero ok m k with
      | some v => some (v, h)
      | none => none
    | _, _ => none
  | .mapUpd kk m k v => fun tm h => match ev tm m, ev tm k, ev tm v with
    | some m, some k, some v => match mapUpdA h kk m k v with
      | some h' => some (undefV, h')
      | none => none
    | _, _, _ => none
  | .mapDel kk m k => fun tm h => match ev tm m, ev tm k with
    | some m, some k => match mapDelA h kk m k with
      | some h' => some (.tuple [], h')
      | none => none
    | _, _ => none
  | .mapLen m => fun tm h => match ev tm m with
    | some m => match mapOf h m with
      | some es => some (.int .i64 es.length, h)
      | none => none
    | none => none
  | .mkFn fn first caps => fun tm h => match evs tm first, evs tm caps with
    | some a, some b => some (.func fn a b, h)
    | _, _ => none
  | .extract i x => fun tm h => match ev tm x with
    | some (.tuple vs) => match vs[i]? with
      | some v => some (v, h)
      | none => none
    | _ => none
  | .mkIface t x => fun tm h => match ev tm x with
    | some v => some (.iface t v, h)
    | none => none
  | .assertT t x => fun tm h => match ev tm x with
    | some (.iface t' v) => if t' = t then some (v, h) else none
    | _ => none
  | .isNil neg x => fun tm h => match ev tm x with
    | some .nilIface => some (.bool (!neg), h)
    | some (.iface _ _) => some (.bool neg, h)
    | _ => none
  | .minN mx xs => fun tm h => match evs tm xs with
    | some (.int k a :: r) => match minNA mx a r with
      | some m => some (.int k m, h)
      | none => none
    | _ => none
  | .mapEnt kk zero m k => fun tm h => match ev tm m, ev tm k with
    | some m, some k => mapEntA h kk zero m k
    | _, _ => none
  | .entSt m s x => fun tm h => match ev tm m, ev tm s, ev tm x with
    | some m, some s, some x => match entStA h m s x with
      | some h' => some (undefV, h')
      | none => none
    | _, _, _ => none
  | .call _ _ => fun tm h => none
  | .invoke _ _ _ => fun tm h => none

/-- What is called: a function, or a round of a range (yield). -/
inductive Cal where
  | fn (f : Nat)
  | yl (b : Nat)
abbrev CallF := Cal → List V → Heap → Option (V × Heap)

def opA (call : CallF) (k : K) : TM → Heap → Option (V × Heap) :=
  match k with
  | .call f args => fun tm h => match ev tm f, evs tm args with
    | some (.func (.func f) first caps), some vs => call (.fn f) (first ++ vs ++ caps) h
    | some (.yld b), some vs => call (.yl b) vs h
    | _, _ => none
  | .invoke tbl x args => fun tm h => match ev tm x, evs tm args with
    | some (.iface t v), some vs => match methA t tbl with
      | some f => call (.fn f) (v :: vs) h
      | none => none
    | _, _ => none
  | k => opK k

def wantedA (tm : TM) : Option (Nat × Bool) → Option Bool
  | none => some true
  | some (t, want) => match tm.get t with
    | some (.bool b) => some (b == want)
    | some (.tuple []) => some false
    | _ => none

def TM.put (tm : TM) (dst : Option Nat) (v : V) : TM :=
  match dst with
  | some d => tm.set d v
  | none => tm

def stepOp (call : CallF) (o : AOp) (tm : TM) (h : Heap) : Option (TM × Heap) :=
  match wantedA tm o.guard with
  | some true => match opA call o.k tm h with
    | some (v, h') => some (TM.put tm o.dst v, h')
    | none => none
  | some false => some (TM.put tm o.dst undefV, h)
  | none => none

def runOps (call : CallF) : List AOp → TM → Heap → Option (TM × Heap)
  | [], tm, h => some (tm, h)
  | o :: r, tm, h => match stepOp call o tm h with
    | some (tm', h') => runOps call r tm' h'
    | none => none

/-- Does an operation change memory that is there, or call? -/
def K.isC : K → Bool
  | .store .. | .append .. | .appendS .. | .unsStr .. | .copy .. | .clear .. | .mapUpd .. | .mapDel .. | .call .. | .invoke .. | .mapEnt .. | .entSt .. => true
  | _ => false
/-- Does it make a block, of what its operands hold alone? -/
def K.isAlloc : K → Bool
  | .alloc .. | .box .. | .buildSl .. | .makeSl .. | .makeMap | .toBytes .. => true
  | _ => false

structure Log where
  o : AOp
  ran : Bool
  tm : TM
  h : Heap
  v : V

def sameObj : Option Obj → Option Obj → Bool
  | some (.cells a (.tip [] z ty)), some (.cells b (.tip [] z' ty')) => V.beqs a b && z == z' && decide (ty = ty')
  | some (.map [] [] 0), some (.map [] [] 0) => true
  | _, _ => false

/-- Would this operation, had it come later, have done the same? -/
def okLater (l : Log) (h' : Heap) : Bool :=
  if l.ran then
    if l.o.k.isAlloc then match opK l.o.k l.tm l.h with
      | some (_, h1) => sameObj (h'.get l.h.size) (h1.get l.h.size)
      | none => false
    else match opK l.o.k l.tm h' with
      | some (v, _) => V.beq v l.v
      | none => false
  else true

def okTail (l : Log) (p : Nat) : List (DOp × Log) → Heap → Bool
  | [], hN => okLater l hN
  | (d, l') :: r, hN => if d.o.k.isC then okLater l l'.h && (d.anc.contains p || okTail l p r hN) else okTail l p r hN

def okAll : Nat → List (DOp × Log) → Heap → Bool
  | _, [], _ => true
  | q, (d, l) :: r, hN => (d.o.k.isC || okTail l q r hN) && okAll (q + 1) r hN

/-- The operations of a drawn region, one by one, with what each came to. -/
def traceDraw (call : CallF) : List DOp → TM → Heap → Option (List (DOp × Log) × TM × Heap)
  | [], tm, h => some ([], tm, h)
  | d :: r, tm, h =>
    match wantedA tm d.o.guard with
    | some false => match traceDraw call r (TM.put tm d.o.dst undefV) h with
      | some (tr, tm', h') => some ((d, ⟨d.o, false, tm, h, undefV⟩) :: tr, tm', h')
      | none => none
    | some true => match opA call d.o.k tm h with
      | some (v, h2) => match traceDraw call r (TM.put tm d.o.dst v) h2 with
        | some (tr, tm', h') => some ((d, ⟨d.o, true, tm, h, v⟩) :: tr, tm', h')
        | none => none
      | none => none
    | none => none

def runDraw (call : CallF) (l : List DOp) (tm : TM) (h : Heap) : Option (TM × Heap) :=
  match traceDraw call l tm h with
  | some (tr, tm', h') => if okAll 0 tr h' then some (tm', h') else none
  | none => none

/-- The place of what is deferred: no temporary's. -/
def DX : Nat := 1000000
def deferred (tm : TM) : List V := match tm.get DX with
  | some (.tuple l) => l
  | _ => []
def pushD (tm : TM) (x : V) : TM := tm.set DX (.tuple (x :: deferred tm))
def pushMark (tm : TM) (b : Nat) : TM := pushD tm (.yld b)

/-- The way in which a range is left. -/
def exOf : Option Ex → Ex
  | none => .normal
  | some e => e

abbrev LoopF := AC → TM → Heap → Option (Ex × TM × Heap)

def execC (call : CallF) (loopk : LoopF) : AC → TM → Heap → Option (Ex × TM × Heap)
  | .skip => fun tm h => some (.normal, tm, h)
  | .ops l => fun tm h => match runOps call l tm h with
    | some (tm', h') => some (.normal, tm', h')
    | none => none
  | .draw l => fun tm h => match runDraw call l tm h with
    | some (tm', h') => some (.normal, tm', h')
    | none => none
  | .seq a b => fun tm h => match execC call loopk a tm h with
    | some (.normal, tm', h') => execC call loopk b tm' h'
    | r => r
  | .cond x a b => fun tm h => match ev tm x with
    | some (.bool t) => if t then execC call loopk a tm h else execC call loopk b tm h
    | _ => none
  | .block id c => fun tm h => match execC call loopk c tm h with
    | some (.exit i, tm', h') => some (if i = id then .normal else .exit i, tm', h')
    | r => r
  | .loop c => fun tm h => match execC call loopk c tm h with
    | some (.normal, tm', h') => loopk (.loop c) tm' h'
    | r => r
  | .exit id => fun tm h => some (.exit id, tm, h)
  | .ret => fun tm h => some (.ret, tm, h)
  | .bad => fun _ _ => none
  | .range nt f ps asg body => fun tm h => match ev tm f with
    | some (.func (.func f) first caps) =>
      match call (.fn f) (first ++ [.yld (h.size + 1)] ++ caps) ((h.push .dfr).push (.loop .ready none nt tm ps asg body)) with
      | some (_, h') => match h'.get (h.size + 1) with
        | some (.loop st pend _ _ _ _ _) => match st with
          | .busy => none
          | _ => some (exOf pend, pushMark tm h.size, h'.put (h.size + 1) .dead)
        | _ => none
      | none => none
    | _ => none
  | .defr f args => fun tm h => match ev tm f, evs tm args with
    | some (.func (.func f) first caps), some vs => some (.normal, pushD tm (.tuple [.func (.func f) [] [], .tuple (first ++ vs ++ caps)]), h)
    | _, _ => none

def resA (tm : TM) (h : Heap) : Res → Option V
  | .tmp t => tm.get t
  | .cell t n => match tm.get t with
    | some a => loadA h n a
    | none => none

def ressA (tm : TM) (h : Heap) : List Res → Option (List V)
  | [] => some []
  | r :: rs => match resA tm h r, ressA tm h rs with
    | some v, some vs => some (v :: vs)
    | _, _ => none

def oneOf : List V → V
  | [v] => v
  | vs => .tuple vs

def argsTM : Nat → List V → TM → TM
  | _, [], tm => tm
  | i, v :: r, tm => argsTM (i + 1) r (tm.set i v)

/-- A call's end: where nothing that was there has changed, and what is handed back names no block of the call's own, memory is as it was. -/
def closeCall (h : Heap) (v : V) (h1 : Heap) : V × Heap :=
  if h.size ≤ h1.low ∧ v.scopd h.size = true then (v, h) else (v, { h1 with low := min h.low h1.low })

/-- A round of a range over a function: yield is called. -/
def setPs : List Nat → List V → TM → Option TM
  | [], [], tm => some tm
  | p :: ps, v :: vs, tm => setPs ps vs (tm.set p v)
  | _, _, _ => none
def yieldBody (exec : LoopF) (b : Nat) (vs : List V) (h : Heap) : Option (V × Heap) :=
  match h.get b with
  | some (.loop _ _ _ tm ps asg body) => match setPs ps vs tm with
    | some tm1 => match exec asg tm1 h with
      | some (.normal, tm2, h2) => match h2.get b with
        | some (.loop .ready p1 n1 t1 q1 a1 b1) =>
          match exec body tm2 (h2.put b (.loop .busy p1 n1 t1 q1 a1 b1)) with
          | some (ex, _, h3) => match h3.get b with
            | some (.loop _ _ n2 t2 q2 a2 b2) => match ex with
              | .normal => some (.bool true, h3.put b (.loop .ready none n2 t2 q2 a2 b2))
              | e => some (.bool false, h3.put b (.loop .done (some e) n2 t2 q2 a2 b2))
            | _ => none
          | none => none
        | _ => none
      | _ => none
    | none => none
  | _ => none

/-- Does a piece of code defer nothing? -/
def AC.noD : AC → Bool
  | .seq a b => a.noD && b.noD
  | .cond _ a b => a.noD && b.noD
  | .block _ c => c.noD
  | .loop c => c.noD
  | .defr _ _ => false
  | .range _ _ _ _ _ => false
  | _ => true

structure Cfg where
  F : Nat → Option AFunc
  S : Nat → List V → Heap → Option (Option (V × Heap))
  I : Nat → Bool := fun _ => false

/-- What is deferred, at a call's end: marks of ranges, and calls that defer nothing. -/
def runDefers (C : Cfg) (exec : LoopF) : List V → Heap → Option Heap
  | [], h => some h
  | .yld b :: r, h => match h.get b with
    | some .dfr => runDefers C exec r (h.put b .dead)
    | _ => none
  | .tuple [.func (.func f) [] [], .tuple args] :: r, h =>
    if C.I f = true then runDefers C exec r h
    else match C.F f with
      | some af => if args.length = af.nparams then match exec af.body (argsTM 0 args .nil) h with
          | some (.exit _, _, _) => none
          | some (_, tm, h1) => match deferred tm, ressA tm h1 af.results with
            | [], some _ => runDefers C exec r h1
            | _, _ => none
          | none => none
        else none
      | none => none
  | _ :: _, _ => none

def callBody (C : Cfg) (exec : LoopF) (af : AFunc) (args : List V) (h : Heap) : Option (V × Heap) :=
  if args.length = af.nparams then
    match exec af.body (argsTM 0 args .nil) { h with low := h.size } with
    | some (.exit _, _, _) => none
    | some (_, tm, h1) => match runDefers C exec (deferred tm) h1 with
      | some h2 => match ressA tm h2 af.results with
        | some vs => some (closeCall h (oneOf vs) h2)
        | none => none
      | none => none
    | none => none
  else none

def runF (C : Cfg) (exec : LoopF) (f : Nat) (args : List V) (h : Heap) : Option (V × Heap) :=
  match C.S f args h with
  | some r => r
  | none => match C.F f with
    | some af => callBody C exec af args h
    | none => none

def run (C : Cfg) : Nat → CallF × LoopF
  | 0 => (fun _ _ _ => none, fun _ _ _ => none)
  | n + 1 =>
    (fun c args h => match c with
      | .fn f => runF C (execC (run C n).1 (run C n).2) f args h
      | .yl b => yieldBody (execC (run C n).1 (run C n).2) b args h,
     execC (run C n).1 (run C n).2)
end
end Abs
end Go.Proofs.YtmgbcaboljilnaaGreatDoor
