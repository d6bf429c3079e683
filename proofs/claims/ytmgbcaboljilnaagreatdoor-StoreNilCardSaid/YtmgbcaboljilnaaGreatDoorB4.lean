/- The machine's summaries: what the library answers, what behind answers. -/
import Derived.Test.YtmgbcaboljilnaaGreatDoorB3
import Derived.Test.YtmgbcaboljilnaaGreatDoorB5
import Derived.Test.YtmgbcaboljilnaaGreatDoorA30
import Derived.KernelRfl
namespace Go.Proofs.YtmgbcaboljilnaaGreatDoor
namespace Abs
noncomputable section
set_option linter.unusedVariables false
set_option maxRecDepth 100000
open Go.RowKit

/-- The cube roots' words, as the program's text has them. -/
def rootsN : List Nat := [1116352408, 1899447441, 3049323471, 3921009573, 961987163, 1508970993, 2453635748, 2870763221, 3624381080, 310598401, 607225278, 1426881987, 1925078388, 2162078206, 2614888103, 3248222580, 3835390401, 4022224774, 264347078, 604807628, 770255983, 1249150122, 1555081692, 1996064986, 2554220882, 2821834349, 2952996808, 3210313671, 3336571891, 3584528711, 113926993, 338241895, 666307205, 773529912, 1294757372, 1396182291, 1695183700, 1986661051, 2177026350, 2456956037, 2730485921, 2820302411, 3259730800, 3345764771, 3516065817, 3600352804, 4094571909, 275423344, 430227734, 506948616, 659060556, 883997877, 958139571, 1322822218, 1537002063, 1747873779, 1955562222, 2024104815, 2227730452, 2361852424, 2428436474, 2756734187, 3204031479, 3329325298]
def gl : List (Nat × List V) := [(0, (rootsN.map iN).map uv)]

def repL (s : List Nat) : Nat → List Nat
  | 0 => []
  | n + 1 => s ++ repL s n
def wordsOf : List V → Option (List Nat)
  | [] => some []
  | .int .u32 (.ofNat n) :: r => match Nat.ble n 4294967295, wordsOf r with
    | true, some l => some (n :: l)
    | _, _ => none
  | _ :: _ => none
def rootsOk (h : Heap) : Bool := match h.get 0 with
  | some (.cells cs .ro) => V.beqs cs ((rootsN.map iN).map uv)
  | _ => false

/-- strings.Repeat. -/
def repSum (args : List V) (h : Heap) : Option (V × Heap) := match args with
  | [.str s, .int .i64 n] => if (0 ≤ n ∧ s.length * n.toNat ≤ 1000000) ∧ n ≤ 9223372036854775807 then some (.str (repL s n.toNat), h) else none
  | _ => none
/-- What the library answers. -/
def sumLib (f : Nat) (args : List V) (h : Heap) : Option (Option (V × Heap)) :=
  if f = 103 then match args with
    | [x] => some (some (x, h))
    | _ => some none
  else if f = 101 then some (repSum args h)
  else if f = 86 then some (keysSum 106 124 args h)
  else if f = 85 then some (sortedISum 106 124 args h)
  else none
def cfg0 : Cfg := { F := tab, S := sumLib }
/-- .. and behind. -/
def sumB (f : Nat) (args : List V) (h : Heap) : Option (Option (V × Heap)) :=
  if f = 100 then match args with
    | [.agg cs, .str s] => match wordsOf cs with
      | some H => if H.length = 8 ∧ s.length = 64 ∧ rootsOk h = true then some (some (.agg ((behindN rootsN H s).map fun n => .int .u32 (.ofNat n)), h)) else some none
      | none => some none
    | _ => some none
  else sumLib f args h
def cfg1 : Cfg := { F := tab, S := sumB }
end
end Abs
end Go.Proofs.YtmgbcaboljilnaaGreatDoor
