/- The abstract machine: how its code is read off the model's. -/
import Derived.Test.YtmgbcaboljilnaaGreatDoorA2
namespace Go.Proofs.YtmgbcaboljilnaaGreatDoor
namespace Abs
set_option linter.unusedVariables false

def strOf (s : ByteArray) : List Nat := s.data.toList.map UInt8.toNat

def ofV1 : Value → Option V
  | .bool b => some (.bool b)
  | .int k n => some (.int k n)
  | .string s => some (.str (strOf s))
  | .pointer none => some (.ptr none)
  | .slice none 0 0 => some (.slice none 0 0)
  | .map none => some (.map none)
  | .nilFunc => some .nilFunc
  | .nilIface => some .nilIface
  | _ => none

def ofVs : List Value → Option (List V)
  | [] => some []
  | x :: r => match ofV1 x, ofVs r with
    | some v, some vs => some (v :: vs)
    | _, _ => none

def ofV : Value → Option V
  | .agg cs => match ofVs cs.toList with
    | some vs => some (.agg vs)
    | none => none
  | .func (.func f) a b => if a.size = 0 ∧ b.size = 0 then some (.func (.func f) [] []) else none
  | v => ofV1 v

/-- Package variables are the first blocks: so many. -/
def GN : Nat := 63

def opdC : Operand → Option Opd
  | .tmp t => if t = DX then none else some (.t t)
  | .const v => match ofV v with
    | some v => some (.c v)
    | none => none
  | .func f => some (.c (.func (.func f) [] []))
  | .global g => if g < GN then some (.c (.ptr (some (g, 0)))) else none

def opdsC : List Operand → Option (List Opd)
  | [] => some []
  | x :: r => match opdC x, opdsC r with
    | some v, some vs => some (v :: vs)
    | _, _ => none

def opdO : Option Operand → Option (Option Opd)
  | none => some none
  | some x => match opdC x with
    | some v => some (some v)
    | none => none

def sizeC (P : Program) (t : TypeId) : Option Nat := (P.info? t).map (·.size)
def bytesC (P : Program) (t : TypeId) : Option Nat := (P.info? t).map (·.bytes)
def zeroVal (P : Program) (t : TypeId) : Option Value := (P.info? t).bind (·.zero)
def zeroC (P : Program) (t : TypeId) : Option (List V) := match zeroVal P t with
  | some z => ofVs z.cells.toList
  | none => none

def aggC (P : Program) (t : TypeId) : Option (Option Nat) :=
  match P.underlying t with
  | some (.struct _) | some (.array _ _) => match sizeC P t with
    | some n => some (some n)
    | none => none
  | some _ => some none
  | none => none

def partsC (place : Nat → Option (Nat × Nat)) : List (Nat × Operand) → Option (List (Nat × Nat × Opd))
  | [] => some []
  | (i, x) :: r => match place i, opdC x, partsC place r with
    | some (o, s), some x, some l => some ((o, s, x) :: l)
    | _, _, _ => none

/-- The places of a struct's fields. -/
def placesC (P : Program) : List Field → Option (List (Nat × Nat))
  | [] => some []
  | f :: r => match sizeC P f.type, placesC P r with
    | some s, some l => some ((f.offset, s) :: l)
    | _, _ => none

mutual
def eqdC (P : Program) : Nat → TypeId → Option EqD
  | 0, _ => none
  | n + 1, t => match P.underlying t with
    | some .bool => some (.flat .bool)
    | some (.int _) => some (.flat .int)
    | some .string => some (.flat .str)
    | some (.pointer e) => match sizeC P e with
      | some (_ + 1) => some (.flat .ptr)
      | _ => none
    | some (.slice _) => some (.flat .slice)
    | some (.map _ _) => some (.flat .map)
    | some (.func _ _ _) => some (.flat .func)
    | some (.struct fs) => if P.stoodInHeld t = true then none else match eqdsC P n fs.toList with
      | some l => some (.struct l)
      | none => none
    | _ => none
def eqdsC (P : Program) : Nat → List Field → Option (List (Nat × Option Nat × EqD))
  | 0, _ => none
  | _, [] => some []
  | n + 1, f :: r =>
    if f.name = "_" then eqdsC P n r
    else match aggC P f.type, eqdC P n f.type, eqdsC P n r with
      | some g, some d, some l => some ((f.offset, g, d) :: l)
      | _, _, _ => none
end

def isInt (P : Program) (t : TypeId) : Bool := match P.underlying t with
  | some (.int _) => true
  | _ => false
def isStr (P : Program) (t : TypeId) : Bool := match P.underlying t with
  | some .string => true
  | _ => false
def keyC (P : Program) (t : TypeId) : Option FK := match P.underlying t with
  | some (.int _) => some .int
  | some .string => some .str
  | some .bool => some .bool
  | _ => none

/-- An interface against nil, that stands there as itself. -/
def isNilC (P : Program) (t : TypeId) (neg : Bool) (x y : Operand) : Option K :=
  match P.underlying t, opdC x, y with
  | some (.interface _), some x, .const .nilIface => some (.isNil neg x)
  | _, _, _ => none

def binC (P : Program) (op : BinOp) (t : TypeId) (x0 y0 : Operand) : Option K :=
  match opdC x0, opdC y0 with
  | some x, some y =>
    if isInt P t || isStr P t then some (.bin op x y)
    else match op with
      | .eql => match isNilC P t false x0 y0 with
        | some k => some k
        | none => if P.eqGuardType P.depth t = true then none else match eqdC P 1000 t with
          | some d => some (.eq false d x y)
          | none => none
      | .neq => match isNilC P t true x0 y0 with
        | some k => some k
        | none => if P.eqGuardType P.depth t = true then none else match eqdC P 1000 t with
          | some d => some (.eq true d x y)
          | none => none
      | _ => none
  | _, _ => none

def byteTy (P : Program) (e : TypeId) : Option Nat := match P.underlying e with
  | some (.int .u8) => some e
  | _ => none
/-- A struct whose first field points to its like: it is known by its type (strings.Builder). -/
def selfTy (P : Program) (t : TypeId) : Option Nat := match P.underlying t with
  | some (.struct fs) => match fs[0]? with
    | some f => match P.underlying f.type with
      | some (.pointer e) => if e = t then some t else none
      | _ => none
    | none => none
  | _ => none

def convC (P : Program) (src dst : TypeId) (x : Operand) : Option K :=
  match opdC x, P.underlying src, P.underlying dst with
  | some x, some (.int _), some (.int k) => some (.toInt k x)
  | some x, some .string, some .string => some (.same x)
  | some x, some (.slice e), some .string => match P.underlying e with
    | some (.int .u8) => some (.toStr x)
    | _ => none
  | some x, some .string, some (.slice e) => match P.underlying e, sizeC P e with
    | some (.int .u8), some 1 => some (.toBytes x)
    | _, _ => none
  | some x, some (.pointer t), some .unsafePointer => match sizeC P t with
    | some (_ + 1) => some (.unsP x)
    | _ => none
  | some x, some .unsafePointer, some (.pointer t) => match sizeC P t with
    | some (s + 1) => if P.cellsOf t = s + 1 then some (.ofUns t (s + 1) x) else none
    | _ => none
  | _, _, _ => none

def sliceC (P : Program) (t : TypeId) (x : Operand) (lo hi mx : Option Operand) : Option K :=
  match opdC x, opdO lo, opdO hi, opdO mx with
  | some x, some lo, some hi, some mx =>
    match P.underlying t with
    | some .string => match mx with
      | none => some (.sliceStr x lo hi)
      | some _ => none
    | some (.slice e) => match sizeC P e with
      | some s => some (.sliceSl s x lo hi mx)
      | none => none
    | some (.array n e) => match mx, sizeC P e with
      | none, some s => some (.sliceArr n s x lo hi)
      | _, _ => none
    | _ => none
  | _, _, _, _ => none

def repsI (n : Nat) (z : List V) : List V := (List.range n).map fun i => z.getD (i % z.length) undefV

def lenC (P : Program) (t : TypeId) (x : Operand) : Option K :=
  match opdC x, P.underlying t with
  | some x, some .string => some (.lenStr x)
  | some x, some (.slice _) => some (.lenSl x)
  | some x, some (.map _ _) => some (.mapLen x)
  | some _, some (.array n _) => some (.mv (.c (.int .i64 n)))
  | _, _ => none
def appendC (P : Program) (t u : TypeId) (x y : Operand) : Option K :=
  match opdC x, opdC y, P.underlying t with
  | some x, some y, some (.slice e) => match sizeC P e, bytesC P e, zeroC P e with
    | some s, some b, some z => if z.length = s ∧ s ≠ 0 ∧ b ≠ 0 then
        match P.underlying u with
        | some (.slice _) => some (.append s b (byteTy P e) x y)
        | some .string => if s = 1 ∧ b = 1 then some (.appendS (byteTy P e) x y) else none
        | _ => none
      else none
    | _, _, _ => none
  | _, _, _ => none
def copyC (P : Program) (t : TypeId) (x y : Operand) : Option K :=
  match opdC x, opdC y, P.underlying t with
  | some x, some y, some (.slice e) => match sizeC P e with
    | some s => some (.copy s x y)
    | none => none
  | _, _, _ => none
def clearC (P : Program) (t : TypeId) (x : Operand) : Option K :=
  match opdC x, P.underlying t with
  | some x, some (.slice e) => match sizeC P e, zeroC P e with
    | some s, some z => if z.length = s then some (.clear s z x) else none
    | _, _ => none
  | _, _ => none
def deleteC (P : Program) (t : TypeId) (m k : Operand) : Option K :=
  match opdC m, opdC k, P.underlying t with
  | some m, some k, some (.map kt _) => match keyC P kt with
    | some kk => some (.mapDel kk m k)
    | none => none
  | _, _, _ => none
def mmC (mx : Bool) (x y : Operand) : Option K :=
  match opdC x, opdC y with
  | some x, some y => some (if mx then .max2 x y else .min2 x y)
  | _, _ => none

def mmNC (mx : Bool) (xs : List Operand) : Option K := match opdsC xs with
  | some xs => some (.minN mx xs)
  | none => none
/-- The methods of a name that types of pointers have of their own. -/
def methsC (P : Program) (name : String) : List (Nat × Nat) :=
  (List.range P.types.size).filterMap fun t => match P.info? t with
    | some i => match i.methods.find? (·.name == name), P.underlying t with
      | some m, some (.pointer _) => match m.path.toList, m.func with
        | [], some (f, true) => some (t, f)
        | _, _ => none
      | _, _ => none
    | none => none

def builtinC (P : Program) (b : Builtin) (ts : List TypeId) (args : List Operand) : Option K :=
  match b with
  | .len => match ts, args with
    | [t], [x] => lenC P t x
    | _, _ => none
  | .append => match ts, args with
    | [t, u], [x, y] => appendC P t u x y
    | _, _ => none
  | .min => match args with
    | [x, y] => mmC false x y
    | [x, y, z] => mmNC false [x, y, z]
    | _ => none
  | .max => match args with
    | [x, y] => mmC true x y
    | [x, y, z] => mmNC true [x, y, z]
    | _ => none
  | .copy => match ts, args with
    | [t, _], [x, y] => copyC P t x y
    | _, _ => none
  | .clear => match ts, args with
    | [t], [x] => clearC P t x
    | _, _ => none
  | .unsafeSliceData => match args with
    | [x] => match opdC x with
      | some x => some (.sliceData x)
      | none => none
    | _ => none
  | .unsafeString => match ts, args with
    | [pt, _], [x, n] => match opdC x, opdC n, P.underlying pt with
      | some x, some n, some (.pointer e) => if P.cellsOf e = 1 then some (.unsStr e x n) else none
      | _, _, _ => none
    | _, _ => none
  | .delete => match ts, args with
    | [t, _], [m, k] => deleteC P t m k
    | _, _ => none
  | _ => none

def kC (P : Program) (o : Oper) : Option K :=
  match o.op with
  | .move x | .assign x => match opdC x with
    | some x => some (.mv x)
    | none => none
  | .pick c a b => match opdC c, opdC a, opdC b with
    | some c, some a, some b => some (.pick c a b)
    | _, _, _ => none
  | .alloc t => match zeroC P t with
    | some z => some (.alloc (selfTy P t) z)
    | none => none
  | .box _ x => match opdC x with
    | some x => some (.box x)
    | none => none
  | .build t parts => match zeroC P t, P.underlying t with
    | some z, some (.struct fs) => match placesC P fs.toList with
      | some pl => match partsC (fun i => pl[i]?) parts.toList with
        | some ps => some (.build z ps)
        | none => none
      | none => none
    | some z, some (.array _ e) => match sizeC P e with
      | some s => match partsC (fun i => some (i * s, s)) parts.toList with
        | some ps => some (.build z ps)
        | none => none
      | none => none
    | _, _ => none
  | .buildSlice t len parts => match P.underlying t with
    | some (.slice e) => match sizeC P e, zeroC P e with
      | some s, some z => match partsC (fun i => some (i * s, s)) parts.toList with
        | some ps => if len * s ≤ 16777216 ∧ (len * s = 0 ∨ z.length ≠ 0) then some (.buildSl (repsI (len * s) z) len ps) else none
        | none => none
      | _, _ => none
    | _ => none
  | .load t a => match opdC a, aggC P t with
    | some a, some g => some (.load g a)
    | _, _ => none
  | .store t a x => match opdC a, opdC x, sizeC P t with
    | some a, some x, some n => some (.store n a x)
    | _, _, _ => none
  | .nilCheck x => match opdC x with
    | some x => some (.nilck x)
    | none => none
  | .binOp op t x y _ => binC P op t x y
  | .unOp op _ x => match op, opdC x with
    | .not, some x => some (.not x)
    | .neg, some x => some (.neg x)
    | .xor, some x => some (.inv x)
    | _, _ => none
  | .convert s d x => convC P s d x
  | .makeInterface t x => match P.underlying t, opdC x with
    | some (.interface _), _ => none
    | some _, some x => some (.mkIface t x)
    | _, _ => none
  | .makeFunc (.func f) a b => match opdsC a.toList, opdsC b.toList with
    | some a, some b => some (.mkFn (.func f) a b)
    | _, _ => none
  | .makeMap t none => some .makeMap
  | .makeSlice t l c => match P.underlying t, opdC l, opdC c with
    | some (.slice e), some l, some c => match sizeC P e, bytesC P e, zeroC P e with
      | some s, some b, some z => if z.length = s ∧ s ≠ 0 then some (.makeSl s b z l c) else none
      | _, _, _ => none
    | _, _, _ => none
  | .slice t x lo hi mx => sliceC P t x lo hi mx
  | .fieldAddr s x f => match P.underlying s, opdC x with
    | some (.struct fs), some x => match fs[f]? with
      | some f => match sizeC P f.type with
        | some (_ + 1) => some (.fieldAddr f.offset x)
        | _ => none
      | none => none
    | _, _ => none
  | .field t x f => match P.underlying t, opdC x with
    | some (.struct fs), some x => match fs[f]? with
      | some f => match aggC P f.type with
        | some g => some (.field f.offset g x)
        | none => none
      | none => none
    | _, _ => none
  | .indexAddr t x i => match P.underlying t, opdC x, opdC i with
    | some (.slice e), some x, some i => match sizeC P e with
      | some s => some (.idxSl s x i)
      | none => none
    | some (.array n e), some x, some i => match sizeC P e with
      | some s => some (.idxArr n s x i)
      | none => none
    | _, _, _ => none
  | .index t x i => match P.underlying t, opdC x, opdC i with
    | some .string, some x, some i => some (.atStr x i)
    | some (.array n e), some x, some i => match sizeC P e, aggC P e with
      | some s, some g => some (.atArr n s g x i)
      | _, _ => none
    | _, _, _ => none
  | .lookup t m k ok => match P.underlying t, opdC m, opdC k with
    | some (.map kt et), some m, some k => match zeroVal P et with
      | some z => match ofV z with
        | some z => match keyC P kt with
          | some kk => some (.lookup kk z ok m k)
          | none => none
        | none => none
      | none => none
    | _, _, _ => none
  | .mapUpdate t m k v | .insert t m k v => match P.underlying t, opdC m, opdC k, opdC v with
    | some (.map kt _), some m, some k, some v => match keyC P kt with
      | some kk => some (.mapUpd kk m k v)
      | none => none
    | _, _, _, _ => none
  | .extract x i => match opdC x with
    | some x => some (.extract i x)
    | none => none
  | .call c => match c.callee with
    | .value f => match opdC f, opdsC c.args.toList with
      | some f, some args => some (.call f args)
      | _, _ => none
    | .builtin b => builtinC P b c.argTypes.toList c.args.toList
    | .invoke r name => match opdC r, opdsC c.args.toList with
      | some r, some args => some (.invoke (methsC P name) r args)
      | _, _ => none
  | .typeAssert x _ t false => match opdC x, P.underlying t with
    | some _, some (.interface _) => none
    | some x, some _ => some (.assertT t x)
    | _, _ => none
  | .mapEntry t m k => match P.underlying t, opdC m, opdC k with
    | some (.map kt et), some m, some k => match zeroVal P et with
      | some z => match ofV z with
        | some z => match keyC P kt with
          | some kk => some (.mapEnt kk z m k)
          | none => none
        | none => none
      | none => none
    | _, _, _ => none
  | .entryStore _ m s x => match opdC m, opdC s, opdC x with
    | some m, some s, some x => some (.entSt m s x)
    | _, _, _ => none
  | _ => none

/-- What the machine can't run it refuses where it comes to it. -/
def kX (P : Program) (o : Oper) : K := match kC P o with
  | some k => k
  | none => .bad

/-- The place of a guard's answer. -/
def guardC (ops : Array Oper) (nt : Nat) : Option (Nat × Bool) → Option (Option (Nat × Bool))
  | none => some none
  | some (j, w) => match (ops[j]?).bind (·.dst) with
    | some t => if t < nt ∧ t ≠ DX then some (some (t, w)) else none
    | none => none

def dstOk (nt : Nat) : Option Nat → Bool
  | none => true
  | some d => decide (d < nt ∧ d ≠ DX)

def opC (P : Program) (ops : Array Oper) (nt : Nat) (o : Oper) : Option AOp :=
  match kX P o, guardC ops nt o.guard with
  | k, some g => if dstOk nt o.dst = true then some ⟨o.dst, g, k⟩ else none
  | _, _ => none

def opsC (P : Program) (ops : Array Oper) (nt : Nat) : List Oper → Option (List AOp)
  | [] => some []
  | o :: r => match opC P ops nt o, opsC P ops nt r with
    | some a, some l => some (a :: l)
    | _, _ => none

/-- The temporaries that an operation reads. -/
def Opd.reads : Opd → List Nat
  | .t i => [i]
  | .c _ => []
def oreads : Option Opd → List Nat
  | some x => x.reads
  | none => []
def preads : List (Nat × Nat × Opd) → List Nat
  | [] => []
  | (_, _, x) :: r => x.reads ++ preads r
def lreads : List Opd → List Nat
  | [] => []
  | x :: r => x.reads ++ lreads r

def K.reads : K → List Nat
  | .alloc _ _ | .makeMap | .bad => []
  | .mv x | .box x | .load _ x | .nilck x | .not x | .neg x | .inv x | .toInt _ x | .same x | .toStr x | .toBytes x | .fieldAddr _ x | .field _ _ x | .lenStr x | .lenSl x | .clear _ _ x | .mapLen x | .extract _ x | .mkIface _ x | .sliceData x | .unsP x | .ofUns _ _ x => x.reads
  | .pick c a b => c.reads ++ a.reads ++ b.reads
  | .build _ ps | .buildSl _ _ ps => preads ps
  | .store _ a x | .bin _ a x | .eq _ _ a x | .idxSl _ a x | .idxArr _ _ a x | .atStr a x | .atArr _ _ _ a x | .min2 a x | .max2 a x | .append _ _ _ a x | .appendS _ a x | .unsStr _ a x | .copy _ a x | .makeSl _ _ _ a x | .lookup _ _ _ a x | .mapDel _ a x => a.reads ++ x.reads
  | .sliceStr x lo hi | .sliceArr _ _ x lo hi => x.reads ++ oreads lo ++ oreads hi
  | .sliceSl _ x lo hi mx => x.reads ++ oreads lo ++ oreads hi ++ oreads mx
  | .mapUpd _ m k v => m.reads ++ k.reads ++ v.reads
  | .mkFn _ a b => lreads a ++ lreads b
  | .call f args | .invoke _ f args => f.reads ++ lreads args
  | .assertT _ x | .isNil _ x => x.reads
  | .minN _ xs => lreads xs
  | .mapEnt _ _ a x => a.reads ++ x.reads
  | .entSt a b x => a.reads ++ b.reads ++ x.reads

def AOp.reads (o : AOp) : List Nat := (match o.guard with | some (t, _) => [t] | none => []) ++ o.k.reads

/-- Do two operations touch one temporary? -/
def clash (x y : AOp) : Bool :=
  (match x.dst with
   | some d => y.reads.contains d || y.dst == some d
   | none => false) ||
  (match y.dst with
   | some d => x.reads.contains d
   | none => false)

def drawPos (l : List DOp) (i : Nat) : Option Nat := l.findIdx? fun d => d.idx == i

/-- The places of a drawn region's operations are as its edges say, and what touches one thing is in order. -/
def chkOne (ops : Array Oper) (l : List DOp) (q : Nat) (d : DOp) : Bool :=
  decide (d.idx < ops.size) &&
  d.anc.all (fun p => decide (p < q)) &&
  ((ops[d.idx]?).map fun o => o.after.toList.all fun e => !Region.binds .any e || d.anc.any fun p => match l[p]? with
    | some d' => d'.idx == e.on
    | none => false).getD false &&
  d.anc.all (fun p => ((ops[d.idx]?).map fun o => o.after.toList.any fun e => Region.binds .any e && match drawPos l e.on with
    | some r => p == r || (match l[r]? with
      | some d' => d'.anc.contains p
      | none => false)
    | none => false).getD false) &&
  (List.range q).all fun p => match l[p]? with
    | some d' => !(d'.idx == d.idx) && (d.anc.contains p || (!clash d'.o d.o && !d'.o.k.isC))
    | none => false

def chkAll (ops : Array Oper) (l : List DOp) : Bool :=
  l.length == ops.size && ((List.range ops.size).all fun i => (drawPos l i).isSome) && (List.range l.length).all fun q => match l[q]? with
    | some d => chkOne ops l q d
    | none => false

def drawOne (P : Program) (ops : Array Oper) (nt : Nat) (b : Array Nat) (perm : List Nat) (q i : Nat) : Option DOp :=
  match ops[i]? with
  | some o => match opC P ops nt o with
    | some a => some ⟨a, i, (List.range q).filter fun p => (b.getD i 0).testBit (perm.getD p 0)⟩
    | none => none
  | none => none

def drawList (P : Program) (ops : Array Oper) (nt : Nat) (b : Array Nat) (perm : List Nat) : Nat → List Nat → Option (List DOp)
  | _, [] => some []
  | q, i :: r => match drawOne P ops nt b perm q i, drawList P ops nt b perm (q + 1) r with
    | some d, some l => some (d :: l)
    | _, _ => none

/-- An order in which whatever calls or writes nothing comes as early as it may. -/
def permGo (isC : Nat → Bool) (b : Array Nat) (n : Nat) : Nat → List Nat → List Nat
  | 0, acc => acc.reverse
  | f + 1, acc =>
    let free := fun i => !acc.contains i && (List.range n).all fun j => !(b.getD i 0).testBit j || acc.contains j
    match (List.range n).find? fun i => free i && !isC i with
    | some i => permGo isC b n f (i :: acc)
    | none => match (List.range n).find? free with
      | some i => permGo isC b n f (i :: acc)
      | none => acc.reverse

def isCop (P : Program) (o : Oper) : Bool := (kX P o).isC

def drawC (P : Program) (nt : Nat) (ops : Array Oper) : Option (List DOp) :=
  let b := Region.before ops
  let perm := permGo (fun i => match ops[i]? with | some o => isCop P o | none => true) b ops.size ops.size []
  match drawList P ops nt b perm 0 perm with
  | some l => if chkAll ops l = true then some l else none
  | none => none

/-- A region whose last operation defers a call. -/
def lastD : List Oper → Option (List Oper × Call)
  | [] => none
  | [o] => match o.op, o.guard, o.dst with
    | .defer c, none, none => some ([], c)
    | _, _, _ => none
  | o :: r => match lastD r with
    | some (l, c) => some (o :: l, c)
    | none => none

def codeC (P : Program) (nt : Nat) : Code → Option AC
  | .skip => some .skip
  | .region _ ops false => match lastD ops.toList with
    | some (pre, c) => match opsC P ops nt pre, c.callee with
      | some l, .value f => match opdC f, opdsC c.args.toList with
        | some f, some args => some (.seq (.ops l) (.defr f args))
        | _, _ => some .bad
      | _, _ => some .bad
    | none => match opsC P ops nt ops.toList with
      | some l => some (.ops l)
      | none => some .bad
  | .region _ ops true => if P.follows .mixedOrders = true then match drawC P nt ops with
      | some l => some (.draw l)
      | none => some .bad
    else some .bad
  | .seq a b => match codeC P nt a, codeC P nt b with
    | some a, some b => some (.seq a b)
    | _, _ => none
  | .cond c a b => match opdC c, codeC P nt a, codeC P nt b with
    | some c, some a, some b => some (.cond c a b)
    | _, _, _ => none
  | .block id c => match codeC P nt c with
    | some c => some (.block id c)
    | none => none
  | .loop c => match codeC P nt c with
    | some c => some (.loop c)
    | none => none
  | .exit id => some (.exit id)
  | .ret => some .ret
  | .scope c => codeC P nt c
  | .label _ => some .skip
  | .rangeFunc f ps asg body => match opdC f, codeC P nt asg, codeC P nt body with
    | some f, some a, some b => if ps.all (fun p => dstOk nt (some p)) = true ∧ a.noD = true ∧ b.noD = true then some (.range nt f ps.toList a b) else some .bad
    | _, _, _ => some .bad
  | _ => some .bad

def resC (P : Program) : ResultVar → Option Res
  | .tmp t => if t = DX then none else some (.tmp t)
  | .cell t ty => if t = DX then none else match aggC P ty with
    | some g => some (.cell t g)
    | none => none

def ressC (P : Program) : List ResultVar → Option (List Res)
  | [] => some []
  | x :: r => match resC P x, ressC P r with
    | some v, some vs => some (v :: vs)
    | _, _ => none

/-- A function that the abstract machine can run: its parameters are those of the model and what it captures. -/
def funcC (P : Program) (fn : Func) : Option AFunc :=
  match fn.body with
  | some c =>
    if (fn.name == "runtime.NumGoroutine") = true then none else
    if fn.params.size + fn.nfree ≤ fn.ntmps ∧ fn.params.size + fn.nfree ≤ DX then
      match codeC P fn.ntmps c, ressC P fn.results.toList with
      | some c, some rs => some ⟨fn.params.size + fn.nfree, rs, c⟩
      | _, _ => none
    else none
  | none => none
end Abs
end Go.Proofs.YtmgbcaboljilnaaGreatDoor
