/- The abstract machine once more, in a form that Lean's kernel runs quickly; it is the machine. (Written by tools/mkfast.py.) -/
import Derived.Test.YtmgbcaboljilnaaGreatDoorA29
namespace Go.Proofs.YtmgbcaboljilnaaGreatDoor
namespace Abs
noncomputable section
set_option linter.unusedVariables false
set_option linter.unusedSimpArgs false

def op_mv (x : Opd) : TM → Heap → Option (V × Heap) := fun tm h => match ev tm x with
    | some v => some (v, h)
    | none => none
def op_pick (c a b : Opd) : TM → Heap → Option (V × Heap) := fun tm h => match ev tm c with
    | some (.bool t) => match ev tm (if t then a else b) with
      | some v => some (v, h)
      | none => none
    | _ => none
def op_bad  : TM → Heap → Option (V × Heap) := fun tm h => none
def op_sliceData (x : Opd) : TM → Heap → Option (V × Heap) := fun tm h => match ev tm x with
    | some x => match sliceDataA x with
      | some v => some (v, h)
      | none => none
    | none => none
def op_unsStr (bt : Nat) (x n : Opd) : TM → Heap → Option (V × Heap) := fun tm h => match ev tm x, ev tm n with
    | some x, some n => unsStrA h bt x n
    | _, _ => none
def op_unsP (x : Opd) : TM → Heap → Option (V × Heap) := fun tm h => match ev tm x with
    | some x => if unsPA h x = true then some (x, h) else none
    | none => none
def op_ofUns (u n : Nat) (x : Opd) : TM → Heap → Option (V × Heap) := fun tm h => match ev tm x with
    | some x => if ofUnsA h u n x = true then some (x, h) else none
    | none => none
def op_alloc (ty : Option Nat) (zero : List V) : TM → Heap → Option (V × Heap) := fun tm h => some (.ptr (some (h.size, 0)), h.push (.cells zero (.tip [] 0 ty)))
def op_box (x : Opd) : TM → Heap → Option (V × Heap) := fun tm h => match ev tm x with
    | some v => some (.ptr (some (h.size, 0)), h.push (.cells v.cellsOf (.tip [] 0 none)))
    | none => none
def op_build (zero : List V) (parts : List (Nat × Nat × Opd)) : TM → Heap → Option (V × Heap) := fun tm h => match evParts tm parts with
    | some ps => match fillV zero ps with
      | some cs => some (.agg cs, h)
      | none => none
    | none => none
def op_buildSl (zero : List V) (len : Nat) (parts : List (Nat × Nat × Opd)) : TM → Heap → Option (V × Heap) := fun tm h => match evParts tm parts with
    | some ps => match fillV zero ps with
      | some cs => some (.slice (some (h.size, 0)) len len, h.push (.cells cs (.tip [] 0 none)))
      | none => none
    | none => none
def op_load (n : Option Nat) (a : Opd) : TM → Heap → Option (V × Heap) := fun tm h => match ev tm a with
    | some a => match loadA h n a with
      | some v => some (v, h)
      | none => none
    | none => none
def op_store (n : Nat) (a x : Opd) : TM → Heap → Option (V × Heap) := fun tm h => match ev tm a, ev tm x with
    | some a, some x => match storeA h n a x with
      | some h' => some (undefV, h')
      | none => none
    | _, _ => none
def op_nilck (x : Opd) : TM → Heap → Option (V × Heap) := fun tm h => match ev tm x with
    | some (.ptr (some p)) => some (.ptr (some p), h)
    | some (.func (.func f) a b) => some (.func (.func f) a b, h)
    | _ => none
def op_eq (neg : Bool) (d : EqD) (x y : Opd) : TM → Heap → Option (V × Heap) := fun tm h => match ev tm x, ev tm y with
    | some x, some y => match eqA d x y with
      | some b => some (.bool (if neg then !b else b), h)
      | none => none
    | _, _ => none
def op_not (x : Opd) : TM → Heap → Option (V × Heap) := fun tm h => match ev tm x with
    | some (.bool b) => some (.bool (!b), h)
    | _ => none
def op_neg (x : Opd) : TM → Heap → Option (V × Heap) := fun tm h => match ev tm x with
    | some (.int k n) => some (.int k (k.wrap (0 - n)), h)
    | _ => none
def op_inv (x : Opd) : TM → Heap → Option (V × Heap) := fun tm h => match ev tm x with
    | some (.int k n) => some (.int k (k.wrap (BitVec.ofInt k.bits (if k.signed then -1 else k.max) ^^^ BitVec.ofInt k.bits n).toNat), h)
    | _ => none
def op_toInt (k : IntKind) (x : Opd) : TM → Heap → Option (V × Heap) := fun tm h => match ev tm x with
    | some (.int _ n) => some (.int k (k.wrap n), h)
    | _ => none
def op_same (x : Opd) : TM → Heap → Option (V × Heap) := fun tm h => match ev tm x with
    | some (.str s) => some (.str s, h)
    | _ => none
def op_toStr (x : Opd) : TM → Heap → Option (V × Heap) := fun tm h => match ev tm x with
    | some x => match toStrA h x with
      | some v => some (v, h)
      | none => none
    | none => none
def op_toBytes (x : Opd) : TM → Heap → Option (V × Heap) := fun tm h => match ev tm x with
    | some (.str s) => some (.oslice h.size 0 s.length s.length 0, h.push (.cells (bytesV s) (.tip [] 0 none)))
    | _ => none
def op_sliceStr (x : Opd) (lo hi : Option Opd) : TM → Heap → Option (V × Heap) := fun tm h => match ev tm x, evo tm lo, evo tm hi with
    | some x, some lo, some hi => match sliceStrA x lo hi with
      | some v => some (v, h)
      | none => none
    | _, _, _ => none
def op_sliceSl (sz : Nat) (x : Opd) (lo hi mx : Option Opd) : TM → Heap → Option (V × Heap) := fun tm h => match ev tm x, evo tm lo, evo tm hi, evo tm mx with
    | some x, some lo, some hi, some mx => match sliceSlA sz x lo hi mx with
      | some v => some (v, h)
      | none => none
    | _, _, _, _ => none
def op_sliceArr (n sz : Nat) (x : Opd) (lo hi : Option Opd) : TM → Heap → Option (V × Heap) := fun tm h => match ev tm x, evo tm lo, evo tm hi with
    | some x, some lo, some hi => match sliceArrA n sz x lo hi with
      | some v => some (v, h)
      | none => none
    | _, _, _ => none
def op_fieldAddr (off : Nat) (x : Opd) : TM → Heap → Option (V × Heap) := fun tm h => match ev tm x with
    | some (.ptr (some (b, o))) => some (.ptr (some (b, o + off)), h)
    | _ => none
def op_field (off : Nat) (n : Option Nat) (x : Opd) : TM → Heap → Option (V × Heap) := fun tm h => match ev tm x with
    | some (.agg cs) => match aggOf n cs off with
      | some v => some (v, h)
      | none => none
    | _ => none
def op_idxSl (sz : Nat) (x i : Opd) : TM → Heap → Option (V × Heap) := fun tm h => match ev tm x, ev tm i with
    | some x, some i => match idxSlA sz x i with
      | some v => some (v, h)
      | none => none
    | _, _ => none
def op_idxArr (n sz : Nat) (x i : Opd) : TM → Heap → Option (V × Heap) := fun tm h => match ev tm x, ev tm i with
    | some x, some i => match idxArrA n sz x i with
      | some v => some (v, h)
      | none => none
    | _, _ => none
def op_atStr (x i : Opd) : TM → Heap → Option (V × Heap) := fun tm h => match ev tm x, ev tm i with
    | some x, some i => match atStrA x i with
      | some v => some (v, h)
      | none => none
    | _, _ => none
def op_atArr (n : Nat) (sz : Nat) (g : Option Nat) (x : Opd) (i : Opd) : TM → Heap → Option (V × Heap) := fun tm h => match ev tm x, ev tm i with
    | some x, some i => match atArrA n sz g x i with
      | some v => some (v, h)
      | none => none
    | _, _ => none
def op_lenStr (x : Opd) : TM → Heap → Option (V × Heap) := fun tm h => match ev tm x with
    | some (.str s) => some (.int .i64 s.length, h)
    | _ => none
def op_lenSl (x : Opd) : TM → Heap → Option (V × Heap) := fun tm h => match ev tm x with
    | some x => match slLen x with
      | some n => some (.int .i64 n, h)
      | none => none
    | none => none
def op_min2 (x y : Opd) : TM → Heap → Option (V × Heap) := fun tm h => match ev tm x, ev tm y with
    | some (.int k a), some (.int _ b) => some (.int k (if b < a then b else a), h)
    | _, _ => none
def op_max2 (x y : Opd) : TM → Heap → Option (V × Heap) := fun tm h => match ev tm x, ev tm y with
    | some (.int k a), some (.int _ b) => some (.int k (if b > a then b else a), h)
    | _, _ => none
def op_append (sz bytes : Nat) (ty : Option Nat) (x y : Opd) : TM → Heap → Option (V × Heap) := fun tm h => match ev tm x, ev tm y with
    | some x, some y => appendA h sz bytes ty x y
    | _, _ => none
def op_appendS (ty : Option Nat) (x y : Opd) : TM → Heap → Option (V × Heap) := fun tm h => match ev tm x, ev tm y with
    | some x, some y => appendSA h ty x y
    | _, _ => none
def op_copy (sz : Nat) (x y : Opd) : TM → Heap → Option (V × Heap) := fun tm h => match ev tm x, ev tm y with
    | some x, some y => copyA h sz x y
    | _, _ => none
def op_clear (sz : Nat) (zero : List V) (x : Opd) : TM → Heap → Option (V × Heap) := fun tm h => match ev tm x with
    | some x => clearA h sz zero x
    | none => none
def op_makeSl (sz bytes : Nat) (zero : List V) (l c : Opd) : TM → Heap → Option (V × Heap) := fun tm h => match ev tm l, ev tm c with
    | some l, some c => makeSlA h sz bytes zero l c
    | _, _ => none
def op_makeMap  : TM → Heap → Option (V × Heap) := fun tm h => some (.map (some h.size), h.push (.map [] [] 0))
def op_lookup (kk : FK) (zero : V) (ok : Bool) (m k : Opd) : TM → Heap → Option (V × Heap) := fun tm h => match ev tm m, ev tm k with
    | some m, some k => match lookupA h kk zero ok m k with
      | some v => some (v, h)
      | none => none
    | _, _ => none
def op_mapUpd (kk : FK) (m k v : Opd) : TM → Heap → Option (V × Heap) := fun tm h => match ev tm m, ev tm k, ev tm v with
    | some m, some k, some v => match mapUpdA h kk m k v with
      | some h' => some (undefV, h')
      | none => none
    | _, _, _ => none
def op_mapDel (kk : FK) (m k : Opd) : TM → Heap → Option (V × Heap) := fun tm h => match ev tm m, ev tm k with
    | some m, some k => match mapDelA h kk m k with
      | some h' => some (.tuple [], h')
      | none => none
    | _, _ => none
def op_mapLen (m : Opd) : TM → Heap → Option (V × Heap) := fun tm h => match ev tm m with
    | some m => match mapOf h m with
      | some es => some (.int .i64 es.length, h)
      | none => none
    | none => none
def op_mkFn (fn : Fn) (first caps : List Opd) : TM → Heap → Option (V × Heap) := fun tm h => match evs tm first, evs tm caps with
    | some a, some b => some (.func fn a b, h)
    | _, _ => none
def op_extract (i : Nat) (x : Opd) : TM → Heap → Option (V × Heap) := fun tm h => match ev tm x with
    | some (.tuple vs) => match vs[i]? with
      | some v => some (v, h)
      | none => none
    | _ => none
def op_mkIface (t : Nat) (x : Opd) : TM → Heap → Option (V × Heap) := fun tm h => match ev tm x with
    | some v => some (.iface t v, h)
    | none => none
def op_assertT (t : Nat) (x : Opd) : TM → Heap → Option (V × Heap) := fun tm h => match ev tm x with
    | some (.iface t' v) => if t' = t then some (v, h) else none
    | _ => none
def op_isNil (neg : Bool) (x : Opd) : TM → Heap → Option (V × Heap) := fun tm h => match ev tm x with
    | some .nilIface => some (.bool (!neg), h)
    | some (.iface _ _) => some (.bool neg, h)
    | _ => none
def op_minN (mx : Bool) (xs : List Opd) : TM → Heap → Option (V × Heap) := fun tm h => match evs tm xs with
    | some (.int k a :: r) => match minNA mx a r with
      | some m => some (.int k m, h)
      | none => none
    | _ => none
def op_mapEnt (kk : FK) (zero : V) (m k : Opd) : TM → Heap → Option (V × Heap) := fun tm h => match ev tm m, ev tm k with
    | some m, some k => mapEntA h kk zero m k
    | _, _ => none
def op_entSt (m s x : Opd) : TM → Heap → Option (V × Heap) := fun tm h => match ev tm m, ev tm s, ev tm x with
    | some m, some s, some x => match entStA h m s x with
      | some h' => some (undefV, h')
      | none => none
    | _, _, _ => none
def bin2 (fi : IntKind → Int → IntKind → Int → Option V) (fs : List Nat → List Nat → Option V) (x y : V) : Option V :=
  match x, y with
  | .int k a, .int k' b => fi k a k' b
  | .str a, .str b => fs a b
  | _, _ => none
def bin_addF : V → V → Option V := bin2 (fun k a k' b => if k = k' then some (.int k (k.wrap (a + b))) else none) (fun a b => if a.length + b.length ≤ 4611686018427387904 then some (.str (a ++ b)) else none)
def bin_subF : V → V → Option V := bin2 (fun k a k' b => if k = k' then some (.int k (k.wrap (a - b))) else none) (fun a b => none)
def bin_mulF : V → V → Option V := bin2 (fun k a k' b => if k = k' then some (.int k (k.wrap (a * b))) else none) (fun a b => none)
def bin_quoF : V → V → Option V := bin2 (fun k a k' b => if k = k' ∧ b ≠ 0 then some (.int k (k.wrap (a.tdiv b))) else none) (fun a b => none)
def bin_remF : V → V → Option V := bin2 (fun k a k' b => if k = k' ∧ b ≠ 0 then some (.int k (a.tmod b)) else none) (fun a b => none)
def bin_andF : V → V → Option V := bin2 (fun k a k' b => if k = k' then some (.int k (k.wrap (BitVec.ofInt k.bits a &&& BitVec.ofInt k.bits b).toNat)) else none) (fun a b => none)
def bin_orF : V → V → Option V := bin2 (fun k a k' b => if k = k' then some (.int k (k.wrap (BitVec.ofInt k.bits a ||| BitVec.ofInt k.bits b).toNat)) else none) (fun a b => none)
def bin_xorF : V → V → Option V := bin2 (fun k a k' b => if k = k' then some (.int k (k.wrap (BitVec.ofInt k.bits a ^^^ BitVec.ofInt k.bits b).toNat)) else none) (fun a b => none)
def bin_shlF : V → V → Option V := bin2 (fun k a k' b => shiftA .shl k a b) (fun a b => none)
def bin_shrF : V → V → Option V := bin2 (fun k a k' b => shiftA .shr k a b) (fun a b => none)
def bin_andNotF : V → V → Option V := bin2 (fun k a k' b => if k = k' then some (.int k (k.wrap (BitVec.ofInt k.bits a &&& ~~~ BitVec.ofInt k.bits b).toNat)) else none) (fun a b => none)
def bin_eqlF : V → V → Option V := bin2 (fun k a k' b => if k = k' then some (.bool (a == b)) else none) (fun a b => some (.bool (beqL a b)))
def bin_neqF : V → V → Option V := bin2 (fun k a k' b => if k = k' then some (.bool (a != b)) else none) (fun a b => some (.bool (!beqL a b)))
def bin_lssF : V → V → Option V := bin2 (fun k a k' b => if k = k' then some (.bool (decide (a < b))) else none) (fun a b => some (.bool (lessL a b)))
def bin_leqF : V → V → Option V := bin2 (fun k a k' b => if k = k' then some (.bool (decide (a ≤ b))) else none) (fun a b => some (.bool (lessL a b || beqL a b)))
def bin_gtrF : V → V → Option V := bin2 (fun k a k' b => if k = k' then some (.bool (decide (a > b))) else none) (fun a b => some (.bool (!(lessL a b || beqL a b))))
def bin_geqF : V → V → Option V := bin2 (fun k a k' b => if k = k' then some (.bool (decide (a ≥ b))) else none) (fun a b => some (.bool (!lessL a b)))
def binF (op : BinOp) : V → V → Option V := BinOp.rec (motive := fun _ => V → V → Option V) bin_addF bin_subF bin_mulF bin_quoF bin_remF bin_andF bin_orF bin_xorF bin_shlF bin_shrF bin_andNotF bin_eqlF bin_neqF bin_lssF bin_leqF bin_gtrF bin_geqF op
theorem binF_eq (op : BinOp) (x y : V) : binF op x y = binA op x y := by
  cases op <;> cases x <;> cases y <;> rfl
def op_bin (op : BinOp) (x y : Opd) : TM → Heap → Option (V × Heap) := fun tm h => match ev tm x, ev tm y with
  | some x, some y => match binF op x y with
    | some v => some (v, h)
    | none => none
  | _, _ => none
def op_call (call : CallF) (f : Opd) (args : List Opd) : TM → Heap → Option (V × Heap) := fun tm h => match ev tm f, evs tm args with
  | some (.func (.func f) first caps), some vs => call (.fn f) (first ++ vs ++ caps) h
  | some (.yld b), some vs => call (.yl b) vs h
  | _, _ => none
def op_invoke (call : CallF) (tbl : List (Nat × Nat)) (x : Opd) (args : List Opd) : TM → Heap → Option (V × Heap) := fun tm h => match ev tm x, evs tm args with
  | some (.iface t v), some vs => match methA t tbl with
    | some f => call (.fn f) (v :: vs) h
    | none => none
  | _, _ => none
def opF (call : CallF) (k : K) : TM → Heap → Option (V × Heap) :=
  K.rec (motive := fun _ => TM → Heap → Option (V × Heap)) op_mv op_pick op_bad op_sliceData op_unsStr op_unsP op_ofUns op_alloc op_box op_build op_buildSl op_load op_store op_nilck op_bin op_eq op_not op_neg op_inv op_toInt op_same op_toStr op_toBytes op_sliceStr op_sliceSl op_sliceArr op_fieldAddr op_field op_idxSl op_idxArr op_atStr op_atArr op_lenStr op_lenSl op_min2 op_max2 op_append op_appendS op_copy op_clear op_makeSl op_makeMap op_lookup op_mapUpd op_mapDel op_mapLen op_mkFn op_extract op_mkIface (op_call call) (op_invoke call) op_assertT op_isNil op_minN op_mapEnt op_entSt k
theorem opF_eq (call : CallF) (k : K) : opF call k = opA call k := by
  cases k <;> try rfl
  case bin op x y =>
    funext tm h
    show op_bin op x y tm h = opK (.bin op x y) tm h
    simp only [op_bin, opK, binF_eq]
    rfl

abbrev R := Option (TM × Heap)
abbrev KK := V → Heap → R
def bindK (o : Option (V × Heap)) : KK → R := Option.rec (motive := fun _ => KK → R) (fun _ => none) (fun p => Prod.rec (motive := fun _ => KK → R) (fun v h κ => κ v h) p) o
def bindV (o : Option V) : (V → R) → R := Option.rec (motive := fun _ => (V → R) → R) (fun _ => none) (fun v κ => κ v) o
def evK (x : Opd) : TM → (V → R) → R := Opd.rec (motive := fun _ => TM → (V → R) → R) (fun i tm κ => bindV (TM.get tm i) κ) (fun v tm κ => κ v) x
theorem evK_eq (x : Opd) (tm : TM) (κ : V → R) : evK x tm κ = bindV (ev tm x) κ := by cases x <;> rfl
def bindL (o : Option (List V)) : (List V → R) → R := Option.rec (motive := fun _ => (List V → R) → R) (fun _ => none) (fun v κ => κ v) o
def evsK (l : List Opd) : TM → (List V → R) → R := List.rec (motive := fun _ => TM → (List V → R) → R) (fun tm κ => κ []) (fun x _ ih tm κ => evK x tm (fun v => ih tm (fun vs => κ (v :: vs)))) l
theorem evsK_eq : ∀ (l : List Opd) (tm : TM) (κ : List V → R), evsK l tm κ = bindL (evs tm l) κ
  | [], tm, κ => rfl
  | x :: l, tm, κ => by
    show evK x tm (fun v => evsK l tm (fun vs => κ (v :: vs))) = _
    rw [evK_eq]
    unfold evs
    cases ev tm x with
    | none => rfl
    | some v =>
      show evsK l tm (fun vs => κ (v :: vs)) = _
      rw [evsK_eq l]
      cases evs tm l <;> rfl
def onInt (v : V) : (IntKind → Int → R) → R → R := V.rec (motive_1 := fun _ => (IntKind → Int → R) → R → R) (motive_2 := fun _ => Unit) (fun _ f d => d) (fun k n f d => f k n) (fun _ f d => d) (fun _ f d => d) (fun _ _ _ f d => d) (fun _ _ _ _ _ f d => d) (fun _ f d => d) (fun _ _ _ _ _ f d => d) (fun f d => d) (fun _ _ _ f d => d) (fun f d => d) (fun _ _ f d => d) (fun _ _ f d => d) (fun _ f d => d) () (fun _ _ _ _ => ()) v
def onPtr (v : V) : (Nat → Nat → R) → R → R := V.rec (motive_1 := fun _ => (Nat → Nat → R) → R → R) (motive_2 := fun _ => Unit) (fun _ f d => d) (fun _ _ f d => d) (fun _ f d => d) (fun a f d => Option.rec (motive := fun _ => (Nat → Nat → R) → R → R) (fun f d => d) (fun p => Prod.rec (motive := fun _ => (Nat → Nat → R) → R → R) (fun b o f d => f b o) p) a f d) (fun _ _ _ f d => d) (fun _ _ _ _ _ f d => d) (fun _ f d => d) (fun _ _ _ _ _ f d => d) (fun f d => d) (fun _ _ _ f d => d) (fun f d => d) (fun _ _ f d => d) (fun _ _ f d => d) (fun _ f d => d) () (fun _ _ _ _ => ()) v
def onBool (v : V) : (Bool → R) → R → R := V.rec (motive_1 := fun _ => (Bool → R) → R → R) (motive_2 := fun _ => Unit) (fun b f d => f b) (fun _ _ f d => d) (fun _ f d => d) (fun _ f d => d) (fun _ _ _ f d => d) (fun _ _ _ _ _ f d => d) (fun _ f d => d) (fun _ _ _ _ _ f d => d) (fun f d => d) (fun _ _ _ f d => d) (fun f d => d) (fun _ _ f d => d) (fun _ _ f d => d) (fun _ f d => d) () (fun _ _ _ _ => ()) v
def onTup (v : V) : (List V → R) → R → R := V.rec (motive_1 := fun _ => (List V → R) → R → R) (motive_2 := fun _ => Unit) (fun _ f d => d) (fun _ _ f d => d) (fun _ f d => d) (fun _ f d => d) (fun _ _ _ f d => d) (fun _ _ _ _ _ f d => d) (fun _ f d => d) (fun _ _ _ _ _ f d => d) (fun f d => d) (fun _ _ _ f d => d) (fun f d => d) (fun _ _ f d => d) (fun vs _ f d => f vs) (fun _ f d => d) () (fun _ _ _ _ => ()) v
def onAgg (v : V) : (List V → R) → R → R := V.rec (motive_1 := fun _ => (List V → R) → R → R) (motive_2 := fun _ => Unit) (fun _ f d => d) (fun _ _ f d => d) (fun _ f d => d) (fun _ f d => d) (fun _ _ _ f d => d) (fun _ _ _ _ _ f d => d) (fun _ f d => d) (fun _ _ _ _ _ f d => d) (fun f d => d) (fun _ _ _ f d => d) (fun f d => d) (fun vs _ f d => f vs) (fun _ _ f d => d) (fun _ f d => d) () (fun _ _ _ _ => ()) v
def callV (v : V) : CallF → List V → Heap → Option (V × Heap) := V.rec (motive_1 := fun _ => CallF → List V → Heap → Option (V × Heap)) (motive_2 := fun _ => Unit) (fun _ call vs h => none) (fun _ _ call vs h => none) (fun _ call vs h => none) (fun _ call vs h => none) (fun _ _ _ call vs h => none) (fun _ _ _ _ _ call vs h => none) (fun _ call vs h => none) (fun fn first caps _ _ call vs h => Fn.rec (motive := fun _ => List V → List V → CallF → List V → Heap → Option (V × Heap)) (fun f first caps call vs h => call (.fn f) (List.append (List.append first vs) caps) h) (fun _ _ _ _ _ _ => none) (fun _ _ _ _ _ _ _ => none) (fun _ _ _ _ _ _ _ _ _ => none) (fun _ _ _ _ _ _ => none) fn first caps call vs h) (fun call vs h => none) (fun _ _ _ call vs h => none) (fun call vs h => none) (fun _ _ call vs h => none) (fun _ _ call vs h => none) (fun b call vs h => call (.yl b) vs h) () (fun _ _ _ _ => ()) v
def kidx (k : IntKind) : Nat := IntKind.rec (motive := fun _ => Nat) 0 1 2 3 4 5 6 7 k
def kmaxN (k : IntKind) : Nat := IntKind.rec (motive := fun _ => Nat) 127 32767 2147483647 9223372036854775807 255 65535 4294967295 18446744073709551615 k
def kindEq (a b : IntKind) : Bool := Nat.beq (kidx a) (kidx b)
theorem kindEq_eq {a b : IntKind} (h : kindEq a b = true) : a = b := by cases a <;> cases b <;> first | rfl | (cases h; done)
theorem wrap_nat {k : IntKind} {n : Nat} (h : Nat.ble n (kmaxN k) = true) : k.wrap (.ofNat n) = .ofNat n := by
  have h := Nat.le_of_ble_eq_true h
  cases k <;> simp only [kmaxN] at h <;> simp [IntKind.wrap, IntKind.signed, IntKind.bits] <;> omega
def wrapF (k : IntKind) (n : Int) : Int := Int.rec (motive := fun _ => IntKind → Int) (fun m k => Bool.rec (motive := fun _ => Int) (k.wrap (.ofNat m)) (.ofNat m) (Nat.ble m (kmaxN k))) (fun m k => k.wrap (.negSucc m)) n k
theorem wrapF_eq (k : IntKind) (n : Int) : wrapF k n = k.wrap n := by
  cases n with
  | negSucc m => rfl
  | ofNat m =>
    show Bool.rec (motive := fun _ => Int) (k.wrap (.ofNat m)) (.ofNat m) (Nat.ble m (kmaxN k)) = _
    cases h : Nat.ble m (kmaxN k) with
    | false => rfl
    | true => exact (wrap_nat h).symm
def nat2 (m n : Int) : (Nat → Nat → R) → R → R := Int.rec (motive := fun _ => Int → (Nat → Nat → R) → R → R) (fun m n f d => Int.rec (motive := fun _ => Nat → (Nat → Nat → R) → R → R) (fun n m f d => f m n) (fun _ m f d => d) n m f d) (fun _ n f d => d) m n
def ii (a b : V) (f : IntKind → Nat → Nat → R) (d : R) : R := onInt a (fun k m => onInt b (fun k' n => Bool.rec (motive := fun _ => R) d (nat2 m n (f k) d) (kindEq k k')) d) d
theorem ii_eq {a b : V} {f : IntKind → Nat → Nat → R} {d : R} (h : ∀ k m n, a = .int k (.ofNat m) → b = .int k (.ofNat n) → f k m n = d) : ii a b f d = d := by
  cases a <;> try rfl
  rename_i k m
  cases b <;> try rfl
  rename_i k' n
  show Bool.rec (motive := fun _ => R) d (nat2 m n (f k) d) (kindEq k k') = d
  cases hk : kindEq k k' with
  | false => rfl
  | true =>
    obtain rfl := kindEq_eq hk
    cases m <;> cases n <;> try rfl
    exact h _ _ _ rfl rfl
def ifB (b : Bool) (x d : R) : R := Bool.rec (motive := fun _ => R) d x b
theorem ifB_eq {b : Bool} {x d : R} (h : b = true → x = d) : ifB b x d = d := by
  cases b with
  | false => rfl
  | true => exact h rfl
theorem bindV_some {o : Option V} {v : V} {κ : V → R} (h : o = some v) : κ v = bindV o κ := by rw [h]; rfl
def k_add (a b : V) (κ : V → R) : R := ii a b (fun k m n => ifB (Nat.ble (Nat.add m n) (kmaxN k)) (κ (.int k (.ofNat (Nat.add m n)))) (bindV (bin_addF a b) κ)) (bindV (bin_addF a b) κ)
theorem k_add_eq (a b : V) (κ : V → R) : k_add a b κ = bindV (binF .add a b) κ := by
  refine ii_eq fun k m n ha hb => ?_
  subst ha; subst hb
  show _ = bindV (binF .add _ _) κ
  exact ifB_eq fun hb => bindV_some (by show (if k = k then _ else _) = _; rw [if_pos rfl]; exact congrArg (fun x => some (V.int k x)) (wrap_nat hb))
def k_sub (a b : V) (κ : V → R) : R := ii a b (fun k m n => ifB (Nat.ble n m) (ifB (Nat.ble m (kmaxN k)) (κ (.int k (.ofNat (Nat.sub m n)))) (bindV (bin_subF a b) κ)) (bindV (bin_subF a b) κ)) (bindV (bin_subF a b) κ)
theorem k_sub_eq (a b : V) (κ : V → R) : k_sub a b κ = bindV (binF .sub a b) κ := by
  refine ii_eq fun k m n ha hb => ?_
  subst ha; subst hb
  show _ = bindV (binF .sub _ _) κ
  exact ifB_eq fun h1 => ifB_eq fun h2 => bindV_some (by show (if k = k then _ else _) = _; rw [if_pos rfl, show (Int.ofNat m - Int.ofNat n) = Int.ofNat (m - n) from (Int.ofNat_sub (Nat.le_of_ble_eq_true h1)).symm]; exact congrArg (fun x => some (V.int k x)) (wrap_nat (Nat.ble_eq_true_of_le (Nat.le_trans (Nat.sub_le _ _) (Nat.le_of_ble_eq_true h2)))))
def k_mul (a b : V) (κ : V → R) : R := bindV (bin_mulF a b) κ
theorem k_mul_eq (a b : V) (κ : V → R) : k_mul a b κ = bindV (binF .mul a b) κ := rfl
def k_quo (a b : V) (κ : V → R) : R := bindV (bin_quoF a b) κ
theorem k_quo_eq (a b : V) (κ : V → R) : k_quo a b κ = bindV (binF .quo a b) κ := rfl
def k_rem (a b : V) (κ : V → R) : R := bindV (bin_remF a b) κ
theorem k_rem_eq (a b : V) (κ : V → R) : k_rem a b κ = bindV (binF .rem a b) κ := rfl
def k_and (a b : V) (κ : V → R) : R := bindV (bin_andF a b) κ
theorem k_and_eq (a b : V) (κ : V → R) : k_and a b κ = bindV (binF .and a b) κ := rfl
def k_or (a b : V) (κ : V → R) : R := bindV (bin_orF a b) κ
theorem k_or_eq (a b : V) (κ : V → R) : k_or a b κ = bindV (binF .or a b) κ := rfl
def k_xor (a b : V) (κ : V → R) : R := bindV (bin_xorF a b) κ
theorem k_xor_eq (a b : V) (κ : V → R) : k_xor a b κ = bindV (binF .xor a b) κ := rfl
def k_shl (a b : V) (κ : V → R) : R := bindV (bin_shlF a b) κ
theorem k_shl_eq (a b : V) (κ : V → R) : k_shl a b κ = bindV (binF .shl a b) κ := rfl
def k_shr (a b : V) (κ : V → R) : R := bindV (bin_shrF a b) κ
theorem k_shr_eq (a b : V) (κ : V → R) : k_shr a b κ = bindV (binF .shr a b) κ := rfl
def k_andNot (a b : V) (κ : V → R) : R := bindV (bin_andNotF a b) κ
theorem k_andNot_eq (a b : V) (κ : V → R) : k_andNot a b κ = bindV (binF .andNot a b) κ := rfl
def k_eql (a b : V) (κ : V → R) : R := ii a b (fun k m n => κ (.bool (Nat.beq m n))) (bindV (bin_eqlF a b) κ)
theorem k_eql_eq (a b : V) (κ : V → R) : k_eql a b κ = bindV (binF .eql a b) κ := by
  refine ii_eq fun k m n ha hb => ?_
  subst ha; subst hb
  show _ = bindV (binF .eql _ _) κ
  exact bindV_some (by show (if k = k then _ else _) = _; rw [if_pos rfl]; congr 2; rw [Bool.eq_iff_iff]; simp; omega)
def k_neq (a b : V) (κ : V → R) : R := ii a b (fun k m n => κ (.bool (Bool.rec true false (Nat.beq m n)))) (bindV (bin_neqF a b) κ)
theorem k_neq_eq (a b : V) (κ : V → R) : k_neq a b κ = bindV (binF .neq a b) κ := by
  refine ii_eq fun k m n ha hb => ?_
  subst ha; subst hb
  show _ = bindV (binF .neq _ _) κ
  exact bindV_some (by show (if k = k then _ else _) = _; rw [if_pos rfl]; congr 2; cases hb : Nat.beq m n with | true => (have := Nat.eq_of_beq_eq_true hb; subst this; simp) | false => (have := Nat.ne_of_beq_eq_false hb; simp; omega))
def k_lss (a b : V) (κ : V → R) : R := ii a b (fun k m n => κ (.bool (Nat.ble (Nat.succ m) n))) (bindV (bin_lssF a b) κ)
theorem k_lss_eq (a b : V) (κ : V → R) : k_lss a b κ = bindV (binF .lss a b) κ := by
  refine ii_eq fun k m n ha hb => ?_
  subst ha; subst hb
  show _ = bindV (binF .lss _ _) κ
  exact bindV_some (by show (if k = k then _ else _) = _; rw [if_pos rfl]; congr 2; rw [Bool.eq_iff_iff]; simp [Nat.ble_eq]; omega)
def k_leq (a b : V) (κ : V → R) : R := ii a b (fun k m n => κ (.bool (Nat.ble m n))) (bindV (bin_leqF a b) κ)
theorem k_leq_eq (a b : V) (κ : V → R) : k_leq a b κ = bindV (binF .leq a b) κ := by
  refine ii_eq fun k m n ha hb => ?_
  subst ha; subst hb
  show _ = bindV (binF .leq _ _) κ
  exact bindV_some (by show (if k = k then _ else _) = _; rw [if_pos rfl]; congr 2; rw [Bool.eq_iff_iff]; simp [Nat.ble_eq])
def k_gtr (a b : V) (κ : V → R) : R := ii a b (fun k m n => κ (.bool (Nat.ble (Nat.succ n) m))) (bindV (bin_gtrF a b) κ)
theorem k_gtr_eq (a b : V) (κ : V → R) : k_gtr a b κ = bindV (binF .gtr a b) κ := by
  refine ii_eq fun k m n ha hb => ?_
  subst ha; subst hb
  show _ = bindV (binF .gtr _ _) κ
  exact bindV_some (by show (if k = k then _ else _) = _; rw [if_pos rfl]; congr 2; rw [Bool.eq_iff_iff]; simp [Nat.ble_eq]; omega)
def k_geq (a b : V) (κ : V → R) : R := ii a b (fun k m n => κ (.bool (Nat.ble n m))) (bindV (bin_geqF a b) κ)
theorem k_geq_eq (a b : V) (κ : V → R) : k_geq a b κ = bindV (binF .geq a b) κ := by
  refine ii_eq fun k m n ha hb => ?_
  subst ha; subst hb
  show _ = bindV (binF .geq _ _) κ
  exact bindV_some (by show (if k = k then _ else _) = _; rw [if_pos rfl]; congr 2; rw [Bool.eq_iff_iff]; simp [Nat.ble_eq])
def binK (op : BinOp) : V → V → (V → R) → R := BinOp.rec (motive := fun _ => V → V → (V → R) → R) k_add k_sub k_mul k_quo k_rem k_and k_or k_xor k_shl k_shr k_andNot k_eql k_neq k_lss k_leq k_gtr k_geq op
theorem binK_eq (op : BinOp) (a b : V) (κ : V → R) : binK op a b κ = bindV (binF op a b) κ := by
  cases op
  · exact k_add_eq a b κ
  · exact k_sub_eq a b κ
  · exact k_mul_eq a b κ
  · exact k_quo_eq a b κ
  · exact k_rem_eq a b κ
  · exact k_and_eq a b κ
  · exact k_or_eq a b κ
  · exact k_xor_eq a b κ
  · exact k_shl_eq a b κ
  · exact k_shr_eq a b κ
  · exact k_andNot_eq a b κ
  · exact k_eql_eq a b κ
  · exact k_neq_eq a b κ
  · exact k_lss_eq a b κ
  · exact k_leq_eq a b κ
  · exact k_gtr_eq a b κ
  · exact k_geq_eq a b κ
def nthV (l : List V) : Nat → Option V := List.rec (motive := fun _ => Nat → Option V) (fun _ => none) (fun a _ ih n => Nat.rec (motive := fun _ => V → (Nat → Option V) → Option V) (fun a ih => some a) (fun m _ a ih => ih m) n a ih) l
theorem nthV_eq : ∀ (l : List V) (n : Nat), nthV l n = l[n]?
  | [], n => by simp [nthV]
  | a :: l, 0 => rfl
  | a :: l, n + 1 => by
    show nthV l n = _
    rw [nthV_eq l n]; simp
def loadO (o : Option Obj) : Option Nat → Nat → (V → R) → R → R := Option.rec (motive := fun _ => Option Nat → Nat → (V → R) → R → R) (fun n o κ d => d)
  (fun ob => Obj.rec (motive := fun _ => Option Nat → Nat → (V → R) → R → R) (fun cs st n o κ d => Option.rec (motive := fun _ => List V → Nat → (V → R) → R → R) (fun cs o κ d => bindV (nthV cs o) κ) (fun n cs o κ d => d) n cs o κ d) (fun _ _ _ n o κ d => d) (fun _ _ _ _ _ _ _ n o κ d => d) (fun n o κ d => d) (fun n o κ d => d) ob) o
theorem loadO_eq (h : Heap) (n : Option Nat) (b o : Nat) (κ : V → R) : loadO (h.get b) n o κ (bindV (loadA h n (.ptr (some (b, o)))) κ) = bindV (loadA h n (.ptr (some (b, o)))) κ := by
  have e : ∀ ob, h.get b = ob → loadO ob n o κ (bindV (loadA h n (.ptr (some (b, o)))) κ) = bindV (loadA h n (.ptr (some (b, o)))) κ := by
    intro ob hob
    cases ob with
    | none => rfl
    | some ob =>
      cases ob <;> try rfl
      rename_i cs st
      cases n with
      | some n => rfl
      | none =>
        show bindV (nthV cs o) κ = _
        rw [nthV_eq]
        simp only [loadA, Heap.rd, hob]
  exact e _ rfl
def c_mv (x : Opd) : CallF → TM → Heap → KK → R := fun call tm h κ => evK x tm (fun v => κ v h)
theorem c_mv_eq (x : Opd) (call : CallF) (tm : TM) (h : Heap) (κ : KK) : c_mv x call tm h κ = bindK (op_mv x tm h) κ := by
    rw [c_mv, evK_eq]; unfold op_mv; cases ev tm x <;> rfl
def c_pick (c : Opd) (a : Opd) (b : Opd) : CallF → TM → Heap → KK → R := fun call tm h κ => evK c tm (fun v => onBool v (fun t => Bool.rec (motive := fun _ => R) (evK b tm (fun v => κ v h)) (evK a tm (fun v => κ v h)) t) none)
theorem c_pick_eq (c : Opd) (a : Opd) (b : Opd) (call : CallF) (tm : TM) (h : Heap) (κ : KK) : c_pick c a b call tm h κ = bindK (op_pick c a b tm h) κ := by
    rw [c_pick, evK_eq]; unfold op_pick; cases ev tm c with
    | none => rfl
    | some v =>
      cases v <;> try rfl
      rename_i t
      cases t
      · show evK b tm _ = _
        rw [evK_eq]
        show _ = bindK (match ev tm b with | some v => some (v, h) | none => none) κ
        cases ev tm b <;> rfl
      · show evK a tm _ = _
        rw [evK_eq]
        show _ = bindK (match ev tm a with | some v => some (v, h) | none => none) κ
        cases ev tm a <;> rfl
def c_bad  : CallF → TM → Heap → KK → R := fun call tm h κ => bindK (op_bad  tm h) κ
def c_sliceData (x0 : Opd) : CallF → TM → Heap → KK → R := fun call tm h κ => bindK (op_sliceData x0 tm h) κ
def c_unsStr (x0 : Nat) (x1 : Opd) (x2 : Opd) : CallF → TM → Heap → KK → R := fun call tm h κ => bindK (op_unsStr x0 x1 x2 tm h) κ
def c_unsP (x0 : Opd) : CallF → TM → Heap → KK → R := fun call tm h κ => bindK (op_unsP x0 tm h) κ
def c_ofUns (x0 : Nat) (x1 : Nat) (x2 : Opd) : CallF → TM → Heap → KK → R := fun call tm h κ => bindK (op_ofUns x0 x1 x2 tm h) κ
def c_alloc (x0 : Option Nat) (x1 : List V) : CallF → TM → Heap → KK → R := fun call tm h κ => bindK (op_alloc x0 x1 tm h) κ
def c_box (x0 : Opd) : CallF → TM → Heap → KK → R := fun call tm h κ => bindK (op_box x0 tm h) κ
def c_build (x0 : List V) (x1 : List (Nat × Nat × Opd)) : CallF → TM → Heap → KK → R := fun call tm h κ => bindK (op_build x0 x1 tm h) κ
def c_buildSl (x0 : List V) (x1 : Nat) (x2 : List (Nat × Nat × Opd)) : CallF → TM → Heap → KK → R := fun call tm h κ => bindK (op_buildSl x0 x1 x2 tm h) κ
def c_load (n : Option Nat) (a : Opd) : CallF → TM → Heap → KK → R := fun call tm h κ => evK a tm (fun v => onPtr v (fun b o => loadO (Heap.get h b) n o (fun v => κ v h) (bindV (loadA h n v) (fun v => κ v h))) none)
theorem c_load_eq (n : Option Nat) (a : Opd) (call : CallF) (tm : TM) (h : Heap) (κ : KK) : c_load n a call tm h κ = bindK (op_load n a tm h) κ := by
    rw [c_load, evK_eq]; unfold op_load; cases ev tm a with
    | none => rfl
    | some v =>
      cases v <;> try rfl
      rename_i p
      cases p with
      | none => rfl
      | some p =>
        obtain ⟨b, o⟩ := p
        refine (loadO_eq h n b o (fun v => κ v h)).trans ?_
        show _ = bindK (match loadA h n (.ptr (some (b, o))) with | some v => some (v, h) | none => none) κ
        cases loadA h n (.ptr (some (b, o))) <;> rfl
def c_store (x0 : Nat) (x1 : Opd) (x2 : Opd) : CallF → TM → Heap → KK → R := fun call tm h κ => bindK (op_store x0 x1 x2 tm h) κ
def c_nilck (x : Opd) : CallF → TM → Heap → KK → R := fun call tm h κ => evK x tm (fun v => onPtr v (fun _ _ => κ v h) (bindK (op_nilck (.c v) tm h) κ))
theorem c_nilck_eq (x : Opd) (call : CallF) (tm : TM) (h : Heap) (κ : KK) : c_nilck x call tm h κ = bindK (op_nilck x tm h) κ := by
    rw [c_nilck, evK_eq]; unfold op_nilck; cases ev tm x with
    | none => rfl
    | some v =>
      cases v <;> try rfl
      rename_i a
      cases a <;> rfl
def c_bin (op : BinOp) (x : Opd) (y : Opd) : CallF → TM → Heap → KK → R := fun call tm h κ => evK x tm (fun a => evK y tm (fun b => binK op a b (fun v => κ v h)))
theorem c_bin_eq (op : BinOp) (x : Opd) (y : Opd) (call : CallF) (tm : TM) (h : Heap) (κ : KK) : c_bin op x y call tm h κ = bindK (op_bin op x y tm h) κ := by
    rw [c_bin, evK_eq]; unfold op_bin; cases ev tm x with
    | none => rfl
    | some a =>
      show evK y tm _ = _
      rw [evK_eq]
      cases ev tm y with
      | none => rfl
      | some b =>
        show binK op a b _ = bindK (match binF op a b with | some v => some (v, h) | none => none) κ
        rw [binK_eq]
        cases binF op a b <;> rfl
def c_eq (x0 : Bool) (x1 : EqD) (x2 : Opd) (x3 : Opd) : CallF → TM → Heap → KK → R := fun call tm h κ => bindK (op_eq x0 x1 x2 x3 tm h) κ
def c_not (x0 : Opd) : CallF → TM → Heap → KK → R := fun call tm h κ => bindK (op_not x0 tm h) κ
def c_neg (x0 : Opd) : CallF → TM → Heap → KK → R := fun call tm h κ => bindK (op_neg x0 tm h) κ
def c_inv (x0 : Opd) : CallF → TM → Heap → KK → R := fun call tm h κ => bindK (op_inv x0 tm h) κ
def c_toInt (k : IntKind) (x : Opd) : CallF → TM → Heap → KK → R := fun call tm h κ => evK x tm (fun v => onInt v (fun _ n => κ (.int k (wrapF k n)) h) none)
theorem c_toInt_eq (k : IntKind) (x : Opd) (call : CallF) (tm : TM) (h : Heap) (κ : KK) : c_toInt k x call tm h κ = bindK (op_toInt k x tm h) κ := by
    rw [c_toInt, evK_eq]; unfold op_toInt; cases ev tm x with
    | none => rfl
    | some v =>
      cases v <;> try rfl
      show κ (.int k (wrapF k _)) h = _
      rw [wrapF_eq]; rfl
def c_same (x0 : Opd) : CallF → TM → Heap → KK → R := fun call tm h κ => bindK (op_same x0 tm h) κ
def c_toStr (x0 : Opd) : CallF → TM → Heap → KK → R := fun call tm h κ => bindK (op_toStr x0 tm h) κ
def c_toBytes (x0 : Opd) : CallF → TM → Heap → KK → R := fun call tm h κ => bindK (op_toBytes x0 tm h) κ
def c_sliceStr (x0 : Opd) (x1 : Option Opd) (x2 : Option Opd) : CallF → TM → Heap → KK → R := fun call tm h κ => bindK (op_sliceStr x0 x1 x2 tm h) κ
def c_sliceSl (x0 : Nat) (x1 : Opd) (x2 : Option Opd) (x3 : Option Opd) (x4 : Option Opd) : CallF → TM → Heap → KK → R := fun call tm h κ => bindK (op_sliceSl x0 x1 x2 x3 x4 tm h) κ
def c_sliceArr (x0 : Nat) (x1 : Nat) (x2 : Opd) (x3 : Option Opd) (x4 : Option Opd) : CallF → TM → Heap → KK → R := fun call tm h κ => bindK (op_sliceArr x0 x1 x2 x3 x4 tm h) κ
def c_fieldAddr (off : Nat) (x : Opd) : CallF → TM → Heap → KK → R := fun call tm h κ => evK x tm (fun v => onPtr v (fun b o => κ (.ptr (some (b, Nat.add o off))) h) none)
theorem c_fieldAddr_eq (off : Nat) (x : Opd) (call : CallF) (tm : TM) (h : Heap) (κ : KK) : c_fieldAddr off x call tm h κ = bindK (op_fieldAddr off x tm h) κ := by
    rw [c_fieldAddr, evK_eq]; unfold op_fieldAddr; cases ev tm x with
    | none => rfl
    | some v =>
      cases v <;> try rfl
      rename_i a
      cases a <;> rfl
def c_field (x0 : Nat) (x1 : Option Nat) (x2 : Opd) : CallF → TM → Heap → KK → R := fun call tm h κ => bindK (op_field x0 x1 x2 tm h) κ
def c_idxSl (x0 : Nat) (x1 : Opd) (x2 : Opd) : CallF → TM → Heap → KK → R := fun call tm h κ => bindK (op_idxSl x0 x1 x2 tm h) κ
def c_idxArr (x0 : Nat) (x1 : Nat) (x2 : Opd) (x3 : Opd) : CallF → TM → Heap → KK → R := fun call tm h κ => bindK (op_idxArr x0 x1 x2 x3 tm h) κ
def c_atStr (x0 : Opd) (x1 : Opd) : CallF → TM → Heap → KK → R := fun call tm h κ => bindK (op_atStr x0 x1 tm h) κ
def c_atArr (x0 : Nat) (x1 : Nat) (x2 : Option Nat) (x3 : Opd) (x4 : Opd) : CallF → TM → Heap → KK → R := fun call tm h κ => bindK (op_atArr x0 x1 x2 x3 x4 tm h) κ
def c_lenStr (x0 : Opd) : CallF → TM → Heap → KK → R := fun call tm h κ => bindK (op_lenStr x0 tm h) κ
def c_lenSl (x0 : Opd) : CallF → TM → Heap → KK → R := fun call tm h κ => bindK (op_lenSl x0 tm h) κ
def c_min2 (x0 : Opd) (x1 : Opd) : CallF → TM → Heap → KK → R := fun call tm h κ => bindK (op_min2 x0 x1 tm h) κ
def c_max2 (x0 : Opd) (x1 : Opd) : CallF → TM → Heap → KK → R := fun call tm h κ => bindK (op_max2 x0 x1 tm h) κ
def c_append (x0 : Nat) (x1 : Nat) (x2 : Option Nat) (x3 : Opd) (x4 : Opd) : CallF → TM → Heap → KK → R := fun call tm h κ => bindK (op_append x0 x1 x2 x3 x4 tm h) κ
def c_appendS (x0 : Option Nat) (x1 : Opd) (x2 : Opd) : CallF → TM → Heap → KK → R := fun call tm h κ => bindK (op_appendS x0 x1 x2 tm h) κ
def c_copy (x0 : Nat) (x1 : Opd) (x2 : Opd) : CallF → TM → Heap → KK → R := fun call tm h κ => bindK (op_copy x0 x1 x2 tm h) κ
def c_clear (x0 : Nat) (x1 : List V) (x2 : Opd) : CallF → TM → Heap → KK → R := fun call tm h κ => bindK (op_clear x0 x1 x2 tm h) κ
def c_makeSl (x0 : Nat) (x1 : Nat) (x2 : List V) (x3 : Opd) (x4 : Opd) : CallF → TM → Heap → KK → R := fun call tm h κ => bindK (op_makeSl x0 x1 x2 x3 x4 tm h) κ
def c_makeMap  : CallF → TM → Heap → KK → R := fun call tm h κ => bindK (op_makeMap  tm h) κ
def c_lookup (x0 : FK) (x1 : V) (x2 : Bool) (x3 : Opd) (x4 : Opd) : CallF → TM → Heap → KK → R := fun call tm h κ => bindK (op_lookup x0 x1 x2 x3 x4 tm h) κ
def c_mapUpd (x0 : FK) (x1 : Opd) (x2 : Opd) (x3 : Opd) : CallF → TM → Heap → KK → R := fun call tm h κ => bindK (op_mapUpd x0 x1 x2 x3 tm h) κ
def c_mapDel (x0 : FK) (x1 : Opd) (x2 : Opd) : CallF → TM → Heap → KK → R := fun call tm h κ => bindK (op_mapDel x0 x1 x2 tm h) κ
def c_mapLen (x0 : Opd) : CallF → TM → Heap → KK → R := fun call tm h κ => bindK (op_mapLen x0 tm h) κ
def c_mkFn (x0 : Fn) (x1 : List Opd) (x2 : List Opd) : CallF → TM → Heap → KK → R := fun call tm h κ => bindK (op_mkFn x0 x1 x2 tm h) κ
def c_extract (i : Nat) (x : Opd) : CallF → TM → Heap → KK → R := fun call tm h κ => evK x tm (fun v => onTup v (fun vs => bindV (nthV vs i) (fun v => κ v h)) none)
theorem c_extract_eq (i : Nat) (x : Opd) (call : CallF) (tm : TM) (h : Heap) (κ : KK) : c_extract i x call tm h κ = bindK (op_extract i x tm h) κ := by
    rw [c_extract, evK_eq]; unfold op_extract; cases ev tm x with
    | none => rfl
    | some v =>
      cases v <;> try rfl
      rename_i vs
      show bindV (nthV vs i) _ = bindK (match vs[i]? with | some v => some (v, h) | none => none) κ
      rw [nthV_eq]
      cases vs[i]? <;> rfl
def c_mkIface (x0 : Nat) (x1 : Opd) : CallF → TM → Heap → KK → R := fun call tm h κ => bindK (op_mkIface x0 x1 tm h) κ
def c_call (f : Opd) (args : List Opd) : CallF → TM → Heap → KK → R := fun call tm h κ => evK f tm (fun fv => evsK args tm (fun vs => bindK (callV fv call vs h) κ))
theorem c_call_eq (f : Opd) (args : List Opd) (call : CallF) (tm : TM) (h : Heap) (κ : KK) : c_call f args call tm h κ = bindK (op_call call f args tm h) κ := by
    rw [c_call, evK_eq]; unfold op_call; cases ev tm f with
    | none => rfl
    | some fv =>
      show evsK args tm _ = _
      rw [evsK_eq]
      cases evs tm args with
      | none => cases fv <;> try rfl
                rename_i fn _ _; cases fn <;> rfl
      | some vs =>
        cases fv <;> try rfl
        rename_i fn first caps; cases fn <;> rfl
def c_invoke (x0 : List (Nat × Nat)) (x1 : Opd) (x2 : List Opd) : CallF → TM → Heap → KK → R := fun call tm h κ => bindK (op_invoke call x0 x1 x2 tm h) κ
def c_assertT (x0 : Nat) (x1 : Opd) : CallF → TM → Heap → KK → R := fun call tm h κ => bindK (op_assertT x0 x1 tm h) κ
def c_isNil (x0 : Bool) (x1 : Opd) : CallF → TM → Heap → KK → R := fun call tm h κ => bindK (op_isNil x0 x1 tm h) κ
def c_minN (x0 : Bool) (x1 : List Opd) : CallF → TM → Heap → KK → R := fun call tm h κ => bindK (op_minN x0 x1 tm h) κ
def c_mapEnt (x0 : FK) (x1 : V) (x2 : Opd) (x3 : Opd) : CallF → TM → Heap → KK → R := fun call tm h κ => bindK (op_mapEnt x0 x1 x2 x3 tm h) κ
def c_entSt (x0 : Opd) (x1 : Opd) (x2 : Opd) : CallF → TM → Heap → KK → R := fun call tm h κ => bindK (op_entSt x0 x1 x2 tm h) κ
def kopK (k : K) : CallF → TM → Heap → KK → R := K.rec (motive := fun _ => CallF → TM → Heap → KK → R) c_mv c_pick c_bad c_sliceData c_unsStr c_unsP c_ofUns c_alloc c_box c_build c_buildSl c_load c_store c_nilck c_bin c_eq c_not c_neg c_inv c_toInt c_same c_toStr c_toBytes c_sliceStr c_sliceSl c_sliceArr c_fieldAddr c_field c_idxSl c_idxArr c_atStr c_atArr c_lenStr c_lenSl c_min2 c_max2 c_append c_appendS c_copy c_clear c_makeSl c_makeMap c_lookup c_mapUpd c_mapDel c_mapLen c_mkFn c_extract c_mkIface c_call c_invoke c_assertT c_isNil c_minN c_mapEnt c_entSt k
theorem kopK_eq (call : CallF) (k : K) (tm : TM) (h : Heap) (κ : KK) : kopK k call tm h κ = bindK (opA call k tm h) κ := by
  rw [← opF_eq]
  cases k <;> first | rfl | exact c_mv_eq _ call tm h κ | exact c_pick_eq _ _ _ call tm h κ | exact c_fieldAddr_eq _ _ call tm h κ | exact c_nilck_eq _ call tm h κ | exact c_load_eq _ _ call tm h κ | exact c_toInt_eq _ _ call tm h κ | exact c_extract_eq _ _ call tm h κ | exact c_bin_eq _ _ _ call tm h κ | exact c_call_eq _ _ call tm h κ
def putK (dst : Option Nat) : TM → (TM → Heap → R) → V → Heap → R := Option.rec (motive := fun _ => TM → (TM → Heap → R) → V → Heap → R) (fun tm ih v h => ih tm h) (fun d tm ih v h => ih (TM.set tm d v) h) dst
def gsK (w : Option Bool) : Option Nat → K → (TM → Heap → R) → CallF → TM → Heap → R := Option.rec (motive := fun _ => Option Nat → K → (TM → Heap → R) → CallF → TM → Heap → R) (fun _ _ _ _ _ _ => none)
  (fun b => Bool.rec (motive := fun _ => Option Nat → K → (TM → Heap → R) → CallF → TM → Heap → R) (fun dst k ih call tm h => putK dst tm ih undefV h) (fun dst k ih call tm h => kopK k call tm h (putK dst tm ih)) b) w
def gdK (g : Option (Nat × Bool)) : Option Nat → K → (TM → Heap → R) → CallF → TM → Heap → R := Option.rec (motive := fun _ => Option Nat → K → (TM → Heap → R) → CallF → TM → Heap → R) (fun dst k ih call tm h => kopK k call tm h (putK dst tm ih))
  (fun g dst k ih call tm h => gsK (wantedA tm (some g)) dst k ih call tm h) g
def stpK (o : AOp) : (TM → Heap → R) → CallF → TM → Heap → R := AOp.rec (motive := fun _ => (TM → Heap → R) → CallF → TM → Heap → R) (fun dst g k ih call tm h => gdK g dst k ih call tm h) o
def lopK (l : List AOp) : CallF → TM → Heap → R := List.rec (motive := fun _ => CallF → TM → Heap → R) (fun call tm h => some (tm, h)) (fun o _ ih call tm h => stpK o (ih call) call tm h) l
def opsF (call : CallF) (l : List AOp) (tm : TM) (h : Heap) : R := lopK l call tm h
theorem putK_eq (dst : Option Nat) (tm : TM) (ih : TM → Heap → R) (v : V) (h : Heap) : putK dst tm ih v h = ih (TM.put tm dst v) h := by cases dst <;> rfl
theorem opsF_eq (call : CallF) : ∀ (l : List AOp) (tm : TM) (h : Heap), opsF call l tm h = runOps call l tm h
  | [], tm, h => rfl
  | ⟨dst, g, k⟩ :: l, tm, h => by
    have run1 : kopK k call tm h (putK dst tm (lopK l call)) = match (match opA call k tm h with | some (v, h') => some (TM.put tm dst v, h') | none => none : Option (TM × Heap)) with
        | some (tm', h') => runOps call l tm' h'
        | none => none := by
      rw [kopK_eq]
      cases opA call k tm h with
      | none => rfl
      | some p =>
        obtain ⟨v, h'⟩ := p
        show putK dst tm (lopK l call) v h' = _
        rw [putK_eq]
        exact opsF_eq call l _ _
    unfold runOps stepOp
    cases g with
    | none => exact run1
    | some g =>
      show gsK (wantedA tm (some g)) dst k (lopK l call) call tm h = _
      cases wantedA tm (some g) with
      | none => rfl
      | some b =>
        cases b with
        | false =>
          show putK dst tm (lopK l call) undefV h = _
          rw [putK_eq]
          exact opsF_eq call l _ _
        | true => exact run1

/-! ### Drawn regions: what reads no memory is not looked at again -/
def okAllF : Nat → List (DOp × Log) → Heap → Bool
  | _, [], _ => true
  | q, (d, l) :: r, hN => (match d.o.k.isC with
    | true => true
    | false => match d.o.k.isPure with
      | true => true
      | false => okTail l q r hN) && okAllF (q + 1) r hN
def traceF (call : CallF) : List DOp → TM → Heap → Option (List (DOp × Log) × TM × Heap)
  | [], tm, h => some ([], tm, h)
  | d :: r, tm, h =>
    match wantedA tm d.o.guard with
    | some false => match traceF call r (TM.put tm d.o.dst undefV) h with
      | some (tr, tm', h') => some ((d, ⟨d.o, false, tm, h, undefV⟩) :: tr, tm', h')
      | none => none
    | some true => match opF call d.o.k tm h with
      | some (v, h2) => match traceF call r (TM.put tm d.o.dst v) h2 with
        | some (tr, tm', h') => some ((d, ⟨d.o, true, tm, h, v⟩) :: tr, tm', h')
        | none => none
      | none => none
    | none => none
theorem traceF_eq (call : CallF) : ∀ (l : List DOp) (tm : TM) (h : Heap), traceF call l tm h = traceDraw call l tm h
  | [], tm, h => rfl
  | d :: l, tm, h => by
    unfold traceF traceDraw
    simp only [opF_eq, traceF_eq call l]
    rfl
theorem okAllF_eq {call : CallF} : ∀ (l : List DOp) (q : Nat) {tm tm' : TM} {h h' : Heap} {tr : List (DOp × Log)} (hN : Heap), traceDraw call l tm h = some (tr, tm', h') → okAllF q tr hN = okAll q tr hN
  | [], q, tm, tm', h, h', tr, hN, hx => by cases hx; rfl
  | d :: l, q, tm, tm', h, h', tr, hN, hx => by
    have key : ∀ (lg : Log) (tr2 : List (DOp × Log)), (∀ h1, d.o.k.isPure = true → d.o.k.isC = false → okLater lg h1 = true) → okAllF (q + 1) tr2 hN = okAll (q + 1) tr2 hN → okAllF q ((d, lg) :: tr2) hN = okAll q ((d, lg) :: tr2) hN := by
      intro lg tr2 h1 h2
      unfold okAllF okAll
      rw [h2]
      congr 1
      cases hc : d.o.k.isC with
      | true => rfl
      | false =>
        cases hp : d.o.k.isPure with
        | true => simp only [Bool.false_or]; exact (okTail_all (fun h2 => h1 h2 hp hc) q tr2 hN).symm
        | false => simp
    unfold traceDraw at hx
    split at hx
    · split at hx
      · rename_i h1; cases hx
        exact key _ _ (fun _ _ _ => rfl) (okAllF_eq l (q + 1) hN h1)
      · cases hx
    · split at hx
      · rename_i v h2 hop
        split at hx
        · rename_i h1; cases hx
          refine key _ _ (fun h3 hp hc => ?_) (okAllF_eq l (q + 1) hN h1)
          have hk : opK d.o.k tm h = some (v, h2) := by
            rw [opA_nc (calls_of_isC hc)] at hop
            exact hop
          have hna : d.o.k.isAlloc = false := by
            cases hkk : d.o.k <;> rw [hkk] at hp <;> first | rfl | (cases hp; done)
          unfold okLater
          simp only [if_true, hna, Bool.false_eq_true, if_false]
          rw [(pure_here hp hk).2 h3]
          exact V.beq_refl v
        · cases hx
      · cases hx
    · cases hx
def drawF (call : CallF) (l : List DOp) (tm : TM) (h : Heap) : Option (TM × Heap) :=
  match traceF call l tm h with
  | some (tr, tm', h') => match okAllF 0 tr h' with
    | true => some (tm', h')
    | false => none
  | none => none
theorem drawF_eq (call : CallF) (l : List DOp) (tm : TM) (h : Heap) : drawF call l tm h = runDraw call l tm h := by
  unfold drawF runDraw
  rw [traceF_eq]
  cases ht : traceDraw call l tm h with
  | none => rfl
  | some p =>
    obtain ⟨tr, tm', h'⟩ := p
    simp only [okAllF_eq l 0 h' ht]
    cases okAll 0 tr h' <;> rfl

abbrev RF := TM → Heap → Option (Ex × TM × Heap)
def seqF (a b : RF) : RF := fun tm h => Option.rec (motive := fun _ => Option (Ex × TM × Heap)) none
  (fun p => Prod.rec (motive := fun _ => Option (Ex × TM × Heap)) (fun e q => Prod.rec (motive := fun _ => Option (Ex × TM × Heap)) (fun tm' h' => Ex.rec (motive := fun _ => Option (Ex × TM × Heap)) (b tm' h') (fun i => some (.exit i, tm', h')) (some (.ret, tm', h')) e) q) p) (a tm h)
def condF (x : Opd) (a b : RF) : RF := fun tm h => match ev tm x with
  | some (.bool t) => Bool.rec (motive := fun _ => Option (Ex × TM × Heap)) (b tm h) (a tm h) t
  | _ => none
def blockF (id : Nat) (c : RF) : RF := fun tm h => match c tm h with
  | some (.exit i, tm', h') => some (if i = id then .normal else .exit i, tm', h')
  | r => r
def loopF1 (again : RF) (c : RF) : RF := fun tm h => match c tm h with
  | some (.normal, tm', h') => again tm' h'
  | r => r
def opsRF (call : CallF) (l : List AOp) : RF := fun tm h => Option.rec (motive := fun _ => Option (Ex × TM × Heap)) none (fun p => Prod.rec (motive := fun _ => Option (Ex × TM × Heap)) (fun tm' h' => some (.normal, tm', h')) p) (opsF call l tm h)
def drawRF (call : CallF) (l : List DOp) : RF := fun tm h => match drawF call l tm h with
  | some (tm', h') => some (.normal, tm', h')
  | none => none
def rangeF (call : CallF) (nt : Nat) (f : Opd) (ps : List Nat) (asg body : AC) : RF := fun tm h => match ev tm f with
  | some (.func (.func f) first caps) =>
    match call (.fn f) (first ++ [.yld (h.size + 1)] ++ caps) ((h.push .dfr).push (.loop .ready none nt tm ps asg body)) with
    | some (_, h') => match h'.get (h.size + 1) with
      | some (.loop st pend _ _ _ _ _) => match st with
        | .busy => none
        | _ => some (exOf pend, pushMark tm h.size, h'.put (h.size + 1) .dead)
      | _ => none
    | none => none
  | _ => none
def defrF (f : Opd) (args : List Opd) : RF := fun tm h => match ev tm f, evs tm args with
  | some (.func (.func f) first caps), some vs => some (.normal, pushD tm (.tuple [.func (.func f) [] [], .tuple (first ++ vs ++ caps)]), h)
  | _, _ => none
def execF (call : CallF) (loopk : LoopF) (a : AC) : RF :=
  AC.rec (motive := fun _ => RF) (fun tm h => some (.normal, tm, h)) (opsRF call) (drawRF call) (fun _ _ a b => seqF a b) (fun x _ _ a b => condF x a b) (fun id _ c => blockF id c)
    (fun c ih => loopF1 (loopk (.loop c)) ih) (fun id tm h => some (.exit id, tm, h)) (fun tm h => some (.ret, tm, h)) (fun _ _ => none) (fun nt f ps asg body _ _ => rangeF call nt f ps asg body) defrF a
theorem execF_eq (call : CallF) (loopk : LoopF) : ∀ (a : AC) (tm : TM) (h : Heap), execF call loopk a tm h = execC call loopk a tm h
  | .skip, tm, h => rfl
  | .ops l, tm, h => by
    show opsRF call l tm h = _
    unfold opsRF execC
    rw [opsF_eq]
    cases runOps call l tm h with
    | none => rfl
    | some p => cases p; rfl
  | .draw l, tm, h => by
    show drawRF call l tm h = _
    unfold drawRF execC
    rw [drawF_eq]
    rfl
  | .seq a b, tm, h => by
    show seqF (execF call loopk a) (execF call loopk b) tm h = _
    unfold seqF execC
    rw [execF_eq call loopk a tm h]
    cases execC call loopk a tm h with
    | none => rfl
    | some p =>
      obtain ⟨e, tm', h'⟩ := p
      cases e with
      | normal => exact execF_eq call loopk b tm' h'
      | exit i => rfl
      | ret => rfl
  | .cond x a b, tm, h => by
    show condF x (execF call loopk a) (execF call loopk b) tm h = _
    unfold condF execC
    cases hv : ev tm x with
    | none => rfl
    | some v =>
      cases v <;> try rfl
      rename_i t
      cases t
      · exact execF_eq call loopk b tm h
      · exact execF_eq call loopk a tm h
  | .block id c, tm, h => by
    show blockF id (execF call loopk c) tm h = _
    unfold blockF execC
    rw [execF_eq call loopk c tm h]
    rfl
  | .loop c, tm, h => by
    show loopF1 (loopk (.loop c)) (execF call loopk c) tm h = _
    unfold loopF1 execC
    rw [execF_eq call loopk c tm h]
    rfl
  | .exit id, tm, h => rfl
  | .ret, tm, h => rfl
  | .bad, tm, h => rfl
  | .range nt f ps asg body, tm, h => rfl
  | .defr f args, tm, h => rfl

def bodyF (C : Cfg) (exec : LoopF) (af : AFunc) (args : List V) (h : Heap) : Option (V × Heap) := callBody C exec af args h
def callF1 (C : Cfg) (exec : LoopF) (c : Cal) (args : List V) (h : Heap) : Option (V × Heap) :=
  Cal.rec (motive := fun _ => Option (V × Heap)) (fun f => runF C exec f args h) (fun b => yieldBody exec b args h) c
def fast (C : Cfg) (n : Nat) : CallF × LoopF :=
  Nat.rec (motive := fun _ => CallF × LoopF) (fun _ _ _ => none, fun _ _ _ => none) (fun _ ih => (callF1 C (execF ih.1 ih.2), execF ih.1 ih.2)) n
theorem fast_eq (C : Cfg) : ∀ n, fast C n = run C n
  | 0 => rfl
  | n + 1 => by
    show (callF1 C (execF (fast C n).1 (fast C n).2), execF (fast C n).1 (fast C n).2) = _
    rw [fast_eq C n]
    have he : execF (run C n).1 (run C n).2 = execC (run C n).1 (run C n).2 := by
      funext a tm h
      exact execF_eq _ _ a tm h
    rw [he]
    simp only [run]
    congr 1
    funext c args h
    cases c <;> rfl
end
end Abs
end Go.Proofs.YtmgbcaboljilnaaGreatDoor
