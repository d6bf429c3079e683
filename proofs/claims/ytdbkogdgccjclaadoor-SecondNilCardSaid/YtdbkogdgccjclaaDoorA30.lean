/- The abstract machine once more, in a form that Lean's kernel runs quickly; it is the machine. (Written by tools/mkfast.py.) -/
import Derived.Test.YtdbkogdgccjclaaDoorA29
namespace Go.Proofs.YtdbkogdgccjclaaDoor
namespace Abs
noncomputable section
set_option linter.unusedVariables false
set_option linter.unusedSimpArgs false

def op_mv (x : Opd) : TM → Heap → Option (V × Heap) := fun tm h => match ev tm x with
    | some v => some (v, h)
    | none => none
def op_pick (c a b : Opd) : TM → Heap → Option (V × Heap) := fun tm h => match ev tm c with
    | some (.bool t) => match ev tm (if t then a else b) with
      | some v => some (v, h)
      | none => none
    | _ => none
def op_bad  : TM → Heap → Option (V × Heap) := fun tm h => none
def op_sliceData (x : Opd) : TM → Heap → Option (V × Heap) := fun tm h => match ev tm x with
    | some x => match sliceDataA x with
      | some v => some (v, h)
      | none => none
    | none => none
def op_unsStr (bt : Nat) (x n : Opd) : TM → Heap → Option (V × Heap) := fun tm h => match ev tm x, ev tm n with
    | some x, some n => unsStrA h bt x n
    | _, _ => none
def op_unsP (x : Opd) : TM → Heap → Option (V × Heap) := fun tm h => match ev tm x with
    | some x => if unsPA h x = true then some (x, h) else none
    | none => none
def op_ofUns (u n : Nat) (x : Opd) : TM → Heap → Option (V × Heap) := fun tm h => match ev tm x with
    | some x => if ofUnsA h u n x = true then some (x, h) else none
    | none => none
def op_alloc (ty : Option Nat) (zero : List V) : TM → Heap → Option (V × Heap) := fun tm h => some (.ptr (some (h.size, 0)), h.push (.cells zero (.tip [] 0 ty)))
def op_box (x : Opd) : TM → Heap → Option (V × Heap) := fun tm h => match ev tm x with
    | some v => some (.ptr (some (h.size, 0)), h.push (.cells v.cellsOf (.tip [] 0 none)))
    | none => none
def op_build (zero : List V) (parts : List (Nat × Nat × Opd)) : TM → Heap → Option (V × Heap) := fun tm h => match evParts tm parts with
    | some ps => match fillV zero ps with
      | some cs => some (.agg cs, h)
      | none => none
    | none => none
def op_buildSl (zero : List V) (len : Nat) (parts : List (Nat × Nat × Opd)) : TM → Heap → Option (V × Heap) := fun tm h => match evParts tm parts with
    | some ps => match fillV zero ps with
      | some cs => some (.slice (some (h.size, 0)) len len, h.push (.cells cs (.tip [] 0 none)))
      | none => none
    | none => none
def op_load (n : Option Nat) (a : Opd) : TM → Heap → Option (V × Heap) := fun tm h => match ev tm a with
    | some a => match loadA h n a with
      | some v => some (v, h)
      | none => none
    | none => none
def op_store (n : Nat) (a x : Opd) : TM → Heap → Option (V × Heap) := fun tm h => match ev tm a, ev tm x with
    | some a, some x => match storeA h n a x with
      | some h' => some (undefV, h')
      | none => none
    | _, _ => none
def op_nilck (x : Opd) : TM → Heap → Option (V × Heap) := fun tm h => match ev tm x with
    | some (.ptr (some p)) => some (.ptr (some p), h)
    | some (.func (.func f) a b) => some (.func (.func f) a b, h)
    | _ => none
def op_eq (neg : Bool) (d : EqD) (x y : Opd) : TM → Heap → Option (V × Heap) := fun tm h => match ev tm x, ev tm y with
    | some x, some y => match eqA d x y with
      | some b => some (.bool (if neg then !b else b), h)
      | none => none
    | _, _ => none
def op_not (x : Opd) : TM → Heap → Option (V × Heap) := fun tm h => match ev tm x with
    | some (.bool b) => some (.bool (!b), h)
    | _ => none
def op_neg (x : Opd) : TM → Heap → Option (V × Heap) := fun tm h => match ev tm x with
    | some (.int k n) => some (.int k (k.wrap (0 - n)), h)
    | _ => none
def op_inv (x : Opd) : TM → Heap → Option (V × Heap) := fun tm h => match ev tm x with
    | some (.int k n) => some (.int k (k.wrap (BitVec.ofInt k.bits (if k.signed then -1 else k.max) ^^^ BitVec.ofInt k.bits n).toNat), h)
    | _ => none
def op_toInt (k : IntKind) (x : Opd) : TM → Heap → Option (V × Heap) := fun tm h => match ev tm x with
    | some (.int _ n) => some (.int k (k.wrap n), h)
    | _ => none
def op_same (x : Opd) : TM → Heap → Option (V × Heap) := fun tm h => match ev tm x with
    | some (.str s) => some (.str s, h)
    | _ => none
def op_toStr (x : Opd) : TM → Heap → Option (V × Heap) := fun tm h => match ev tm x with
    | some x => match toStrA h x with
      | some v => some (v, h)
      | none => none
    | none => none
def op_toBytes (x : Opd) : TM → Heap → Option (V × Heap) := fun tm h => match ev tm x with
    | some (.str s) => some (.oslice h.size 0 s.length s.length 0, h.push (.cells (bytesV s) (.tip [] 0 none)))
    | _ => none
def op_sliceStr (x : Opd) (lo hi : Option Opd) : TM → Heap → Option (V × Heap) := fun tm h => match ev tm x, evo tm lo, evo tm hi with
    | some x, some lo, some hi => match sliceStrA x lo hi with
      | some v => some (v, h)
      | none => none
    | _, _, _ => none
def op_sliceSl (sz : Nat) (x : Opd) (lo hi mx : Option Opd) : TM → Heap → Option (V × Heap) := fun tm h => match ev tm x, evo tm lo, evo tm hi, evo tm mx with
    | some x, some lo, some hi, some mx => match sliceSlA sz x lo hi mx with
      | some v => some (v, h)
      | none => none
    | _, _, _, _ => none
def op_sliceArr (n sz : Nat) (x : Opd) (lo hi : Option Opd) : TM → Heap → Option (V × Heap) := fun tm h => match ev tm x, evo tm lo, evo tm hi with
    | some x, some lo, some hi => match sliceArrA n sz x lo hi with
      | some v => some (v, h)
      | none => none
    | _, _, _ => none
def op_fieldAddr (off : Nat) (x : Opd) : TM → Heap → Option (V × Heap) := fun tm h => match ev tm x with
    | some (.ptr (some (b, o))) => some (.ptr (some (b, o + off)), h)
    | _ => none
def op_field (off : Nat) (n : Option Nat) (x : Opd) : TM → Heap → Option (V × Heap) := fun tm h => match ev tm x with
    | some (.agg cs) => match aggOf n cs off with
      | some v => some (v, h)
      | none => none
    | _ => none
def op_idxSl (sz : Nat) (x i : Opd) : TM → Heap → Option (V × Heap) := fun tm h => match ev tm x, ev tm i with
    | some x, some i => match idxSlA sz x i with
      | some v => some (v, h)
      | none => none
    | _, _ => none
def op_idxArr (n sz : Nat) (x i : Opd) : TM → Heap → Option (V × Heap) := fun tm h => match ev tm x, ev tm i with
    | some x, some i => match idxArrA n sz x i with
      | some v => some (v, h)
      | none => none
    | _, _ => none
def op_atStr (x i : Opd) : TM → Heap → Option (V × Heap) := fun tm h => match ev tm x, ev tm i with
    | some x, some i => match atStrA x i with
      | some v => some (v, h)
      | none => none
    | _, _ => none
def op_atArr (n : Nat) (sz : Nat) (g : Option Nat) (x : Opd) (i : Opd) : TM → Heap → Option (V × Heap) := fun tm h => match ev tm x, ev tm i with
    | some x, some i => match atArrA n sz g x i with
      | some v => some (v, h)
      | none => none
    | _, _ => none
def op_lenStr (x : Opd) : TM → Heap → Option (V × Heap) := fun tm h => match ev tm x with
    | some (.str s) => some (.int .i64 s.length, h)
    | _ => none
def op_lenSl (x : Opd) : TM → Heap → Option (V × Heap) := fun tm h => match ev tm x with
    | some x => match slLen x with
      | some n => some (.int .i64 n, h)
      | none => none
    | none => none
def op_min2 (x y : Opd) : TM → Heap → Option (V × Heap) := fun tm h => match ev tm x, ev tm y with
    | some (.int k a), some (.int _ b) => some (.int k (if b < a then b else a), h)
    | _, _ => none
def op_max2 (x y : Opd) : TM → Heap → Option (V × Heap) := fun tm h => match ev tm x, ev tm y with
    | some (.int k a), some (.int _ b) => some (.int k (if b > a then b else a), h)
    | _, _ => none
def op_append (sz bytes : Nat) (ty : Option Nat) (x y : Opd) : TM → Heap → Option (V × Heap) := fun tm h => match ev tm x, ev tm y with
    | some x, some y => appendA h sz bytes ty x y
    | _, _ => none
def op_appendS (ty : Option Nat) (x y : Opd) : TM → Heap → Option (V × Heap) := fun tm h => match ev tm x, ev tm y with
    | some x, some y => appendSA h ty x y
    | _, _ => none
def op_copy (sz : Nat) (x y : Opd) : TM → Heap → Option (V × Heap) := fun tm h => match ev tm x, ev tm y with
    | some x, some y => copyA h sz x y
    | _, _ => none
def op_clear (sz : Nat) (zero : List V) (x : Opd) : TM → Heap → Option (V × Heap) := fun tm h => match ev tm x with
    | some x => clearA h sz zero x
    | none => none
def op_makeSl (sz bytes : Nat) (zero : List V) (l c : Opd) : TM → Heap → Option (V × Heap) := fun tm h => match ev tm l, ev tm c with
    | some l, some c => makeSlA h sz bytes zero l c
    | _, _ => none
def op_makeMap  : TM → Heap → Option (V × Heap) := fun tm h => some (.map (some h.size), h.push (.map [] [] 0))
def op_lookup (kk : FK) (zero : V) (ok : Bool) (m k : Opd) : TM → Heap → Option (V × Heap) := fun tm h => match ev tm m, ev tm k with
    | some m, some k => match lookupA h kk zero ok m k with
      | some v => some (v, h)
      | none => none
    | _, _ => none
def op_mapUpd (kk : FK) (m k v : Opd) : TM → Heap → Option (V × Heap) := fun tm h => match ev tm m, ev tm k, ev tm v with
    | some m, some k, some v => match mapUpdA h kk m k v with
      | some h' => some (undefV, h')
      | none => none
    | _, _, _ => none
def op_mapDel (kk : FK) (m k : Opd) : TM → Heap → Option (V × Heap) := fun tm h => match ev tm m, ev tm k with
    | some m, some k => match mapDelA h kk m k with
      | some h' => some (.tuple [], h')
      | none => none
    | _, _ => none
def op_mapLen (m : Opd) : TM → Heap → Option (V × Heap) := fun tm h => match ev tm m with
    | some m => match mapOf h m with
      | some es => some (.int .i64 es.length, h)
      | none => none
    | none => none
def op_mkFn (fn : Fn) (first caps : List Opd) : TM → Heap → Option (V × Heap) := fun tm h => match evs tm first, evs tm caps with
    | some a, some b => some (.func fn a b, h)
    | _, _ => none
def op_extract (i : Nat) (x : Opd) : TM → Heap → Option (V × Heap) := fun tm h => match ev tm x with
    | some (.tuple vs) => match vs[i]? with
      | some v => some (v, h)
      | none => none
    | _ => none
def op_mkIface (t : Nat) (x : Opd) : TM → Heap → Option (V × Heap) := fun tm h => match ev tm x with
    | some v => some (.iface t v, h)
    | none => none
def op_assertT (t : Nat) (x : Opd) : TM → Heap → Option (V × Heap) := fun tm h => match ev tm x with
    | some (.iface t' v) => if t' = t then some (v, h) else none
    | _ => none
def op_isNil (neg : Bool) (x : Opd) : TM → Heap → Option (V × Heap) := fun tm h => match ev tm x with
    | some .nilIface => some (.bool (!neg), h)
    | some (.iface _ _) => some (.bool neg, h)
    | _ => none
def op_minN (mx : Bool) (xs : List Opd) : TM → Heap → Option (V × Heap) := fun tm h => match evs tm xs with
    | some (.int k a :: r) => match minNA mx a r with
      | some m => some (.int k m, h)
      | none => none
    | _ => none
def op_mapEnt (kk : FK) (zero : V) (m k : Opd) : TM → Heap → Option (V × Heap) := fun tm h => match ev tm m, ev tm k with
    | some m, some k => mapEntA h kk zero m k
    | _, _ => none
def op_entSt (m s x : Opd) : TM → Heap → Option (V × Heap) := fun tm h => match ev tm m, ev tm s, ev tm x with
    | some m, some s, some x => match entStA h m s x with
      | some h' => some (undefV, h')
      | none => none
    | _, _, _ => none
def bin2 (fi : IntKind → Int → IntKind → Int → Option V) (fs : List Nat → List Nat → Option V) (x y : V) : Option V :=
  match x, y with
  | .int k a, .int k' b => fi k a k' b
  | .str a, .str b => fs a b
  | _, _ => none
def bin_addF : V → V → Option V := bin2 (fun k a k' b => if k = k' then some (.int k (k.wrap (a + b))) else none) (fun a b => if a.length + b.length ≤ 4611686018427387904 then some (.str (a ++ b)) else none)
def bin_subF : V → V → Option V := bin2 (fun k a k' b => if k = k' then some (.int k (k.wrap (a - b))) else none) (fun a b => none)
def bin_mulF : V → V → Option V := bin2 (fun k a k' b => if k = k' then some (.int k (k.wrap (a * b))) else none) (fun a b => none)
def bin_quoF : V → V → Option V := bin2 (fun k a k' b => if k = k' ∧ b ≠ 0 then some (.int k (k.wrap (a.tdiv b))) else none) (fun a b => none)
def bin_remF : V → V → Option V := bin2 (fun k a k' b => if k = k' ∧ b ≠ 0 then some (.int k (a.tmod b)) else none) (fun a b => none)
def bin_andF : V → V → Option V := bin2 (fun k a k' b => if k = k' then some (.int k (k.wrap (BitVec.ofInt k.bits a &&& BitVec.ofInt k.bits b).toNat)) else none) (fun a b => none)
def bin_orF : V → V → Option V := bin2 (fun k a k' b => if k = k' then some (.int k (k.wrap (BitVec.ofInt k.bits a ||| BitVec.ofInt k.bits b).toNat)) else none) (fun a b => none)
def bin_xorF : V → V → Option V := bin2 (fun k a k' b => if k = k' then some (.int k (k.wrap (BitVec.ofInt k.bits a ^^^ BitVec.ofInt k.bits b).toNat)) else none) (fun a b => none)
def bin_shlF : V → V → Option V := bin2 (fun k a k' b => shiftA .shl k a b) (fun a b => none)
def bin_shrF : V → V → Option V := bin2 (fun k a k' b => shiftA .shr k a b) (fun a b => none)
def bin_andNotF : V → V → Option V := bin2 (fun k a k' b => if k = k' then some (.int k (k.wrap (BitVec.ofInt k.bits a &&& ~~~ BitVec.ofInt k.bits b).toNat)) else none) (fun a b => none)
def bin_eqlF : V → V → Option V := bin2 (fun k a k' b => if k = k' then some (.bool (a == b)) else none) (fun a b => some (.bool (beqL a b)))
def bin_neqF : V → V → Option V := bin2 (fun k a k' b => if k = k' then some (.bool (a != b)) else none) (fun a b => some (.bool (!beqL a b)))
def bin_lssF : V → V → Option V := bin2 (fun k a k' b => if k = k' then some (.bool (decide (a < b))) else none) (fun a b => some (.bool (lessL a b)))
def bin_leqF : V → V → Option V := bin2 (fun k a k' b => if k = k' then some (.bool (decide (a ≤ b))) else none) (fun a b => some (.bool (lessL a b || beqL a b)))
def bin_gtrF : V → V → Option V := bin2 (fun k a k' b => if k = k' then some (.bool (decide (a > b))) else none) (fun a b => some (.bool (!(lessL a b || beqL a b))))
def bin_geqF : V → V → Option V := bin2 (fun k a k' b => if k = k' then some (.bool (decide (a ≥ b))) else none) (fun a b => some (.bool (!lessL a b)))
def binF (op : BinOp) : V → V → Option V := BinOp.rec (motive := fun _ => V → V → Option V) bin_addF bin_subF bin_mulF bin_quoF bin_remF bin_andF bin_orF bin_xorF bin_shlF bin_shrF bin_andNotF bin_eqlF bin_neqF bin_lssF bin_leqF bin_gtrF bin_geqF op
theorem binF_eq (op : BinOp) (x y : V) : binF op x y = binA op x y := by
  cases op <;> cases x <;> cases y <;> rfl
def op_bin (op : BinOp) (x y : Opd) : TM → Heap → Option (V × Heap) := fun tm h => match ev tm x, ev tm y with
  | some x, some y => match binF op x y with
    | some v => some (v, h)
    | none => none
  | _, _ => none
def op_call (call : CallF) (f : Opd) (args : List Opd) : TM → Heap → Option (V × Heap) := fun tm h => match ev tm f, evs tm args with
  | some (.func (.func f) first caps), some vs => call (.fn f) (first ++ vs ++ caps) h
  | some (.yld b), some vs => call (.yl b) vs h
  | _, _ => none
def op_invoke (call : CallF) (tbl : List (Nat × Nat)) (x : Opd) (args : List Opd) : TM → Heap → Option (V × Heap) := fun tm h => match ev tm x, evs tm args with
  | some (.iface t v), some vs => match methA t tbl with
    | some f => call (.fn f) (v :: vs) h
    | none => none
  | _, _ => none
def opF (call : CallF) (k : K) : TM → Heap → Option (V × Heap) :=
  K.rec (motive := fun _ => TM → Heap → Option (V × Heap)) op_mv op_pick op_bad op_sliceData op_unsStr op_unsP op_ofUns op_alloc op_box op_build op_buildSl op_load op_store op_nilck op_bin op_eq op_not op_neg op_inv op_toInt op_same op_toStr op_toBytes op_sliceStr op_sliceSl op_sliceArr op_fieldAddr op_field op_idxSl op_idxArr op_atStr op_atArr op_lenStr op_lenSl op_min2 op_max2 op_append op_appendS op_copy op_clear op_makeSl op_makeMap op_lookup op_mapUpd op_mapDel op_mapLen op_mkFn op_extract op_mkIface (op_call call) (op_invoke call) op_assertT op_isNil op_minN op_mapEnt op_entSt k
theorem opF_eq (call : CallF) (k : K) : opF call k = opA call k := by
  cases k <;> try rfl
  case bin op x y =>
    funext tm h
    show op_bin op x y tm h = opK (.bin op x y) tm h
    simp only [op_bin, opK, binF_eq]
    rfl

def stepF (call : CallF) (o : AOp) (tm : TM) (h : Heap) : Option (TM × Heap) :=
  Option.rec (motive := fun _ => Option (TM × Heap))
    (Option.rec (motive := fun _ => Option (TM × Heap)) none (fun p => Prod.rec (motive := fun _ => Option (TM × Heap)) (fun v h' => some (TM.put tm o.dst v, h')) p) (opF call o.k tm h))
    (fun g => match wantedA tm (some g) with
      | some true => match opF call o.k tm h with
        | some (v, h') => some (TM.put tm o.dst v, h')
        | none => none
      | some false => some (TM.put tm o.dst undefV, h)
      | none => none) o.guard
theorem stepF_eq (call : CallF) (o : AOp) (tm : TM) (h : Heap) : stepF call o tm h = stepOp call o tm h := by
  obtain ⟨d, g, k⟩ := o
  unfold stepF stepOp
  simp only [opF_eq]
  cases g with
  | none =>
    simp only [wantedA]
    cases opA call k tm h with
    | none => rfl
    | some p => cases p; rfl
  | some g => rfl
def opsF (call : CallF) (l : List AOp) : TM → Heap → Option (TM × Heap) :=
  List.rec (motive := fun _ => TM → Heap → Option (TM × Heap)) (fun tm h => some (tm, h))
    (fun o _ ih tm h => Option.rec (motive := fun _ => Option (TM × Heap)) none (fun p => Prod.rec (motive := fun _ => Option (TM × Heap)) (fun tm' h' => ih tm' h') p) (stepF call o tm h)) l
theorem opsF_eq (call : CallF) : ∀ (l : List AOp) (tm : TM) (h : Heap), opsF call l tm h = runOps call l tm h
  | [], tm, h => rfl
  | o :: l, tm, h => by
    show Option.rec (motive := fun _ => Option (TM × Heap)) none (fun p => Prod.rec (motive := fun _ => Option (TM × Heap)) (fun tm' h' => opsF call l tm' h') p) (stepF call o tm h) = _
    rw [stepF_eq]
    unfold runOps
    cases hs : stepOp call o tm h with
    | none => rfl
    | some p => cases p with | mk a b => exact opsF_eq call l a b

/-! ### Drawn regions: what reads no memory is not looked at again -/
def okAllF : Nat → List (DOp × Log) → Heap → Bool
  | _, [], _ => true
  | q, (d, l) :: r, hN => (match d.o.k.isC with
    | true => true
    | false => match d.o.k.isPure with
      | true => true
      | false => okTail l q r hN) && okAllF (q + 1) r hN
def traceF (call : CallF) : List DOp → TM → Heap → Option (List (DOp × Log) × TM × Heap)
  | [], tm, h => some ([], tm, h)
  | d :: r, tm, h =>
    match wantedA tm d.o.guard with
    | some false => match traceF call r (TM.put tm d.o.dst undefV) h with
      | some (tr, tm', h') => some ((d, ⟨d.o, false, tm, h, undefV⟩) :: tr, tm', h')
      | none => none
    | some true => match opF call d.o.k tm h with
      | some (v, h2) => match traceF call r (TM.put tm d.o.dst v) h2 with
        | some (tr, tm', h') => some ((d, ⟨d.o, true, tm, h, v⟩) :: tr, tm', h')
        | none => none
      | none => none
    | none => none
theorem traceF_eq (call : CallF) : ∀ (l : List DOp) (tm : TM) (h : Heap), traceF call l tm h = traceDraw call l tm h
  | [], tm, h => rfl
  | d :: l, tm, h => by
    unfold traceF traceDraw
    simp only [opF_eq, traceF_eq call l]
    rfl
theorem okAllF_eq {call : CallF} : ∀ (l : List DOp) (q : Nat) {tm tm' : TM} {h h' : Heap} {tr : List (DOp × Log)} (hN : Heap), traceDraw call l tm h = some (tr, tm', h') → okAllF q tr hN = okAll q tr hN
  | [], q, tm, tm', h, h', tr, hN, hx => by cases hx; rfl
  | d :: l, q, tm, tm', h, h', tr, hN, hx => by
    have key : ∀ (lg : Log) (tr2 : List (DOp × Log)), (∀ h1, d.o.k.isPure = true → d.o.k.isC = false → okLater lg h1 = true) → okAllF (q + 1) tr2 hN = okAll (q + 1) tr2 hN → okAllF q ((d, lg) :: tr2) hN = okAll q ((d, lg) :: tr2) hN := by
      intro lg tr2 h1 h2
      unfold okAllF okAll
      rw [h2]
      congr 1
      cases hc : d.o.k.isC with
      | true => rfl
      | false =>
        cases hp : d.o.k.isPure with
        | true => simp only [Bool.false_or]; exact (okTail_all (fun h2 => h1 h2 hp hc) q tr2 hN).symm
        | false => simp
    unfold traceDraw at hx
    split at hx
    · split at hx
      · rename_i h1; cases hx
        exact key _ _ (fun _ _ _ => rfl) (okAllF_eq l (q + 1) hN h1)
      · cases hx
    · split at hx
      · rename_i v h2 hop
        split at hx
        · rename_i h1; cases hx
          refine key _ _ (fun h3 hp hc => ?_) (okAllF_eq l (q + 1) hN h1)
          have hk : opK d.o.k tm h = some (v, h2) := by
            rw [opA_nc (calls_of_isC hc)] at hop
            exact hop
          have hna : d.o.k.isAlloc = false := by
            cases hkk : d.o.k <;> rw [hkk] at hp <;> first | rfl | (cases hp; done)
          unfold okLater
          simp only [if_true, hna, Bool.false_eq_true, if_false]
          rw [(pure_here hp hk).2 h3]
          exact V.beq_refl v
        · cases hx
      · cases hx
    · cases hx
def drawF (call : CallF) (l : List DOp) (tm : TM) (h : Heap) : Option (TM × Heap) :=
  match traceF call l tm h with
  | some (tr, tm', h') => match okAllF 0 tr h' with
    | true => some (tm', h')
    | false => none
  | none => none
theorem drawF_eq (call : CallF) (l : List DOp) (tm : TM) (h : Heap) : drawF call l tm h = runDraw call l tm h := by
  unfold drawF runDraw
  rw [traceF_eq]
  cases ht : traceDraw call l tm h with
  | none => rfl
  | some p =>
    obtain ⟨tr, tm', h'⟩ := p
    simp only [okAllF_eq l 0 h' ht]
    cases okAll 0 tr h' <;> rfl

abbrev RF := TM → Heap → Option (Ex × TM × Heap)
def seqF (a b : RF) : RF := fun tm h => Option.rec (motive := fun _ => Option (Ex × TM × Heap)) none
  (fun p => Prod.rec (motive := fun _ => Option (Ex × TM × Heap)) (fun e q => Prod.rec (motive := fun _ => Option (Ex × TM × Heap)) (fun tm' h' => Ex.rec (motive := fun _ => Option (Ex × TM × Heap)) (b tm' h') (fun i => some (.exit i, tm', h')) (some (.ret, tm', h')) e) q) p) (a tm h)
def condF (x : Opd) (a b : RF) : RF := fun tm h => match ev tm x with
  | some (.bool t) => Bool.rec (motive := fun _ => Option (Ex × TM × Heap)) (b tm h) (a tm h) t
  | _ => none
def blockF (id : Nat) (c : RF) : RF := fun tm h => match c tm h with
  | some (.exit i, tm', h') => some (if i = id then .normal else .exit i, tm', h')
  | r => r
def loopF1 (again : RF) (c : RF) : RF := fun tm h => match c tm h with
  | some (.normal, tm', h') => again tm' h'
  | r => r
def opsRF (call : CallF) (l : List AOp) : RF := fun tm h => Option.rec (motive := fun _ => Option (Ex × TM × Heap)) none (fun p => Prod.rec (motive := fun _ => Option (Ex × TM × Heap)) (fun tm' h' => some (.normal, tm', h')) p) (opsF call l tm h)
def drawRF (call : CallF) (l : List DOp) : RF := fun tm h => match drawF call l tm h with
  | some (tm', h') => some (.normal, tm', h')
  | none => none
def rangeF (call : CallF) (nt : Nat) (f : Opd) (ps : List Nat) (asg body : AC) : RF := fun tm h => match ev tm f with
  | some (.func (.func f) first caps) =>
    match call (.fn f) (first ++ [.yld (h.size + 1)] ++ caps) ((h.push .dfr).push (.loop .ready none nt tm ps asg body)) with
    | some (_, h') => match h'.get (h.size + 1) with
      | some (.loop st pend _ _ _ _ _) => match st with
        | .busy => none
        | _ => some (exOf pend, pushMark tm h.size, h'.put (h.size + 1) .dead)
      | _ => none
    | none => none
  | _ => none
def defrF (f : Opd) (args : List Opd) : RF := fun tm h => match ev tm f, evs tm args with
  | some (.func (.func f) first caps), some vs => some (.normal, pushD tm (.tuple [.func (.func f) [] [], .tuple (first ++ vs ++ caps)]), h)
  | _, _ => none
def execF (call : CallF) (loopk : LoopF) (a : AC) : RF :=
  AC.rec (motive := fun _ => RF) (fun tm h => some (.normal, tm, h)) (opsRF call) (drawRF call) (fun _ _ a b => seqF a b) (fun x _ _ a b => condF x a b) (fun id _ c => blockF id c)
    (fun c ih => loopF1 (loopk (.loop c)) ih) (fun id tm h => some (.exit id, tm, h)) (fun tm h => some (.ret, tm, h)) (fun _ _ => none) (fun nt f ps asg body _ _ => rangeF call nt f ps asg body) defrF a
theorem execF_eq (call : CallF) (loopk : LoopF) : ∀ (a : AC) (tm : TM) (h : Heap), execF call loopk a tm h = execC call loopk a tm h
  | .skip, tm, h => rfl
  | .ops l, tm, h => by
    show opsRF call l tm h = _
    unfold opsRF execC
    rw [opsF_eq]
    cases runOps call l tm h with
    | none => rfl
    | some p => cases p; rfl
  | .draw l, tm, h => by
    show drawRF call l tm h = _
    unfold drawRF execC
    rw [drawF_eq]
    rfl
  | .seq a b, tm, h => by
    show seqF (execF call loopk a) (execF call loopk b) tm h = _
    unfold seqF execC
    rw [execF_eq call loopk a tm h]
    cases execC call loopk a tm h with
    | none => rfl
    | some p =>
      obtain ⟨e, tm', h'⟩ := p
      cases e with
      | normal => exact execF_eq call loopk b tm' h'
      | exit i => rfl
      | ret => rfl
  | .cond x a b, tm, h => by
    show condF x (execF call loopk a) (execF call loopk b) tm h = _
    unfold condF execC
    cases hv : ev tm x with
    | none => rfl
    | some v =>
      cases v <;> try rfl
      rename_i t
      cases t
      · exact execF_eq call loopk b tm h
      · exact execF_eq call loopk a tm h
  | .block id c, tm, h => by
    show blockF id (execF call loopk c) tm h = _
    unfold blockF execC
    rw [execF_eq call loopk c tm h]
    rfl
  | .loop c, tm, h => by
    show loopF1 (loopk (.loop c)) (execF call loopk c) tm h = _
    unfold loopF1 execC
    rw [execF_eq call loopk c tm h]
    rfl
  | .exit id, tm, h => rfl
  | .ret, tm, h => rfl
  | .bad, tm, h => rfl
  | .range nt f ps asg body, tm, h => rfl
  | .defr f args, tm, h => rfl

def bodyF (C : Cfg) (exec : LoopF) (af : AFunc) (args : List V) (h : Heap) : Option (V × Heap) := callBody C exec af args h
def callF1 (C : Cfg) (exec : LoopF) (c : Cal) (args : List V) (h : Heap) : Option (V × Heap) :=
  Cal.rec (motive := fun _ => Option (V × Heap)) (fun f => runF C exec f args h) (fun b => yieldBody exec b args h) c
def fast (C : Cfg) (n : Nat) : CallF × LoopF :=
  Nat.rec (motive := fun _ => CallF × LoopF) (fun _ _ _ => none, fun _ _ _ => none) (fun _ ih => (callF1 C (execF ih.1 ih.2), execF ih.1 ih.2)) n
theorem fast_eq (C : Cfg) : ∀ n, fast C n = run C n
  | 0 => rfl
  | n + 1 => by
    show (callF1 C (execF (fast C n).1 (fast C n).2), execF (fast C n).1 (fast C n).2) = _
    rw [fast_eq C n]
    have he : execF (run C n).1 (run C n).2 = execC (run C n).1 (run C n).2 := by
      funext a tm h
      exact execF_eq _ _ a tm h
    rw [he]
    simp only [run]
    congr 1
    funext c args h
    cases c <;> rfl
end
end Abs
end Go.Proofs.YtdbkogdgccjclaaDoor
