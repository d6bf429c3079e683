/-
  NARROWER THAN 'FOR EVERY INPUT', by the rows' own cells (each row's printed sentence says how): StoreBack: laid · StoreRoom: laid · StoreCaches: laid · StoreSettle: laid · StoreTrue: laid.
  DERIVED. THE GIVEN ROWS OF THIS SEAT. 5 by the template 'for every input the law returns true; each argument reads behind the call as it read before'; 0 by the template 'total and deterministic' (their statements: YtdebiolekbldiaaGreatDoorTotals.lean).
  GIVEN WITH THE SEED: the statements are not yours to turn. If you find one false, say at which input.
  Laid BY PROGRAM, IN A SANDBOX (cutbox-rows.mjs): the forced cells as the released guide's own fill.sh prints them over the translation 13bf9e5ca59bf3ca… (all of the seat's roots in one cut). By AI agents, Wed Nov 11 2026. No macro, syntax, notation, axiom, sorry.
-/
import Derived.Test.YtdebiolekbldiaaGreatDoorChecked
import GoSem.Claim
import GoSem.ClaimJoined
import GoSem.ClaimMapViews
import Derived.JoinedTies
import Derived.KernelRfl
namespace Go.Proofs.YtdebiolekbldiaaGreatDoor
/- THE CELL 'sum', in the pinned program and in every row, IS THE sha256 OF THE DUMP (.gsa) THAT YtdebiolekbldiaaGreatDoorProg.lean LOADS. Nothing in Lean hashes anything: it is a label: what it is worth is what the hold of that sum in a sandbox is worth. -/
noncomputable def Tryz.pinned : Pinned := { name := "ytdebiolekbldiaagreatdoor", sum := "13bf9e5ca59bf3caa884c820436223ed762d881a98a3b1bc877d7dfd06f71709", checked := Tryz.checked }
namespace Rows
def none {H : Type} : Left H := { results := [], args := [] }

/- WHAT THE LISTED PACKAGE-LEVEL VARIABLES READ AS WHEN THE CALL BEGINS. Each datum BY PROGRAM (the guide's laid-datum.mjs) off the statement by which the dump's own 'gosem.cut.vars' lays the variable. In a bare row this is a premise. The card (YtdebiolekbldiaaGreatDoorCards.lean) ties it to the program's text. -/
def laid_permafrost_sum_roots {H : Type} : DataW H := .agg [.lit (.int .u32 1116352408), .lit (.int .u32 1899447441), .lit (.int .u32 3049323471), .lit (.int .u32 3921009573), .lit (.int .u32 961987163), .lit (.int .u32 1508970993), .lit (.int .u32 2453635748), .lit (.int .u32 2870763221), .lit (.int .u32 3624381080), .lit (.int .u32 310598401), .lit (.int .u32 607225278), .lit (.int .u32 1426881987), .lit (.int .u32 1925078388), .lit (.int .u32 2162078206), .lit (.int .u32 2614888103), .lit (.int .u32 3248222580), .lit (.int .u32 3835390401), .lit (.int .u32 4022224774), .lit (.int .u32 264347078), .lit (.int .u32 604807628), .lit (.int .u32 770255983), .lit (.int .u32 1249150122), .lit (.int .u32 1555081692), .lit (.int .u32 1996064986), .lit (.int .u32 2554220882), .lit (.int .u32 2821834349), .lit (.int .u32 2952996808), .lit (.int .u32 3210313671), .lit (.int .u32 3336571891), .lit (.int .u32 3584528711), .lit (.int .u32 113926993), .lit (.int .u32 338241895), .lit (.int .u32 666307205), .lit (.int .u32 773529912), .lit (.int .u32 1294757372), .lit (.int .u32 1396182291), .lit (.int .u32 1695183700), .lit (.int .u32 1986661051), .lit (.int .u32 2177026350), .lit (.int .u32 2456956037), .lit (.int .u32 2730485921), .lit (.int .u32 2820302411), .lit (.int .u32 3259730800), .lit (.int .u32 3345764771), .lit (.int .u32 3516065817), .lit (.int .u32 3600352804), .lit (.int .u32 4094571909), .lit (.int .u32 275423344), .lit (.int .u32 430227734), .lit (.int .u32 506948616), .lit (.int .u32 659060556), .lit (.int .u32 883997877), .lit (.int .u32 958139571), .lit (.int .u32 1322822218), .lit (.int .u32 1537002063), .lit (.int .u32 1747873779), .lit (.int .u32 1955562222), .lit (.int .u32 2024104815), .lit (.int .u32 2227730452), .lit (.int .u32 2361852424), .lit (.int .u32 2428436474), .lit (.int .u32 2756734187), .lit (.int .u32 3204031479), .lit (.int .u32 3329325298)]

/-- 'permafrostlaw18.StoreBack': WHATEVER THE INPUT: true; the input reads as it did. -/
def storeBackSpec : ChangeSpec := { name := "storeBack", fn := fun _ => fun
  | [d] => { results := [.lit (.bool true)], args := [d] }
  | _ => none }
def storeBackRow : OpenClaim := { program := "ytdebiolekbldiaagreatdoor", sum := "13bf9e5ca59bf3caa884c820436223ed762d881a98a3b1bc877d7dfd06f71709", func := "permafrost/permafrostlaw18.StoreBack", spec := "storeBack", inPlace := ["internal/abi.NoEscape", "internal/bytealg.MakeNoZero"], unfollowed := true, recurses := true, named := ["permafrost/sum.roots"], apart := false, laid := [("permafrost/sum.roots", laid_permafrost_sum_roots)] }
def StoreBackSaid : Prop := storeBackRow.holds Tryz.pinned (OpenSpec.ofChange storeBackSpec)

/-- ITS FALSE NEIGHBOUR: 'it returns false'. Refute it at one input. -/
def storeBackWrong : ChangeSpec := { name := "storeBack", fn := fun _ => fun
  | [d] => { results := [.lit (.bool false)], args := [d] }
  | _ => none }
def StoreBackWrongFalsely : Prop := storeBackRow.holds Tryz.pinned (OpenSpec.ofChange storeBackWrong)

/-- 'permafrostlaw18.StoreRoom': WHATEVER THE INPUT: true; the input reads as it did. -/
def storeRoomSpec : ChangeSpec := { name := "storeRoom", fn := fun _ => fun
  | [d] => { results := [.lit (.bool true)], args := [d] }
  | _ => none }
def storeRoomRow : OpenClaim := { program := "ytdebiolekbldiaagreatdoor", sum := "13bf9e5ca59bf3caa884c820436223ed762d881a98a3b1bc877d7dfd06f71709", func := "permafrost/permafrostlaw18.StoreRoom", spec := "storeRoom", inPlace := ["internal/abi.NoEscape", "internal/bytealg.MakeNoZero"], unfollowed := true, recurses := true, named := ["permafrost/sum.roots"], apart := false, laid := [("permafrost/sum.roots", laid_permafrost_sum_roots)] }
def StoreRoomSaid : Prop := storeRoomRow.holds Tryz.pinned (OpenSpec.ofChange storeRoomSpec)

/-- ITS FALSE NEIGHBOUR: 'it returns false'. Refute it at one input. -/
def storeRoomWrong : ChangeSpec := { name := "storeRoom", fn := fun _ => fun
  | [d] => { results := [.lit (.bool false)], args := [d] }
  | _ => none }
def StoreRoomWrongFalsely : Prop := storeRoomRow.holds Tryz.pinned (OpenSpec.ofChange storeRoomWrong)

/-- 'permafrostlaw18.StoreCaches': WHATEVER THE INPUT: true; the input reads as it did. -/
def storeCachesSpec : ChangeSpec := { name := "storeCaches", fn := fun _ => fun
  | [d1, d2] => { results := [.lit (.bool true)], args := [d1, d2] }
  | _ => none }
def storeCachesRow : OpenClaim := { program := "ytdebiolekbldiaagreatdoor", sum := "13bf9e5ca59bf3caa884c820436223ed762d881a98a3b1bc877d7dfd06f71709", func := "permafrost/permafrostlaw18.StoreCaches", spec := "storeCaches", inPlace := ["internal/abi.NoEscape", "internal/bytealg.MakeNoZero"], unfollowed := true, recurses := true, named := ["permafrost/sum.roots"], apart := false, laid := [("permafrost/sum.roots", laid_permafrost_sum_roots)] }
def StoreCachesSaid : Prop := storeCachesRow.holds Tryz.pinned (OpenSpec.ofChange storeCachesSpec)

/-- ITS FALSE NEIGHBOUR: 'it returns false'. Refute it at one input. -/
def storeCachesWrong : ChangeSpec := { name := "storeCaches", fn := fun _ => fun
  | [d1, d2] => { results := [.lit (.bool false)], args := [d1, d2] }
  | _ => none }
def StoreCachesWrongFalsely : Prop := storeCachesRow.holds Tryz.pinned (OpenSpec.ofChange storeCachesWrong)

/-- 'permafrostlaw18.StoreSettle': WHATEVER THE INPUT: true; the input reads as it did. -/
def storeSettleSpec : ChangeSpec := { name := "storeSettle", fn := fun _ => fun
  | [d1, d2] => { results := [.lit (.bool true)], args := [d1, d2] }
  | _ => none }
def storeSettleRow : OpenClaim := { program := "ytdebiolekbldiaagreatdoor", sum := "13bf9e5ca59bf3caa884c820436223ed762d881a98a3b1bc877d7dfd06f71709", func := "permafrost/permafrostlaw18.StoreSettle", spec := "storeSettle", inPlace := ["internal/abi.NoEscape", "internal/bytealg.MakeNoZero"], unfollowed := true, recurses := true, named := ["permafrost/sum.roots"], apart := false, laid := [("permafrost/sum.roots", laid_permafrost_sum_roots)] }
def StoreSettleSaid : Prop := storeSettleRow.holds Tryz.pinned (OpenSpec.ofChange storeSettleSpec)

/-- ITS FALSE NEIGHBOUR: 'it returns false'. Refute it at one input. -/
def storeSettleWrong : ChangeSpec := { name := "storeSettle", fn := fun _ => fun
  | [d1, d2] => { results := [.lit (.bool false)], args := [d1, d2] }
  | _ => none }
def StoreSettleWrongFalsely : Prop := storeSettleRow.holds Tryz.pinned (OpenSpec.ofChange storeSettleWrong)

/-- 'permafrostlaw18.StoreTrue': WHATEVER THE INPUT: true; the input reads as it did. -/
def storeTrueSpec : ChangeSpec := { name := "storeTrue", fn := fun _ => fun
  | [d] => { results := [.lit (.bool true)], args := [d] }
  | _ => none }
def storeTrueRow : OpenClaim := { program := "ytdebiolekbldiaagreatdoor", sum := "13bf9e5ca59bf3caa884c820436223ed762d881a98a3b1bc877d7dfd06f71709", func := "permafrost/permafrostlaw18.StoreTrue", spec := "storeTrue", inPlace := ["internal/abi.NoEscape", "internal/bytealg.MakeNoZero"], unfollowed := true, recurses := true, named := ["permafrost/sum.roots"], apart := false, laid := [("permafrost/sum.roots", laid_permafrost_sum_roots)] }
def StoreTrueSaid : Prop := storeTrueRow.holds Tryz.pinned (OpenSpec.ofChange storeTrueSpec)

/-- ITS FALSE NEIGHBOUR: 'it returns false'. Refute it at one input. -/
def storeTrueWrong : ChangeSpec := { name := "storeTrue", fn := fun _ => fun
  | [d] => { results := [.lit (.bool false)], args := [d] }
  | _ => none }
def StoreTrueWrongFalsely : Prop := storeTrueRow.holds Tryz.pinned (OpenSpec.ofChange storeTrueWrong)

/- THE SECOND FORM. 'bulk': how many values and letters a reading holds, each counted each time it is reached (what is shared counts as often as it is met; a slice's spare places count too). A statement '..UptoSaid' is the law's where the arguments, and the package variables that the reading takes, are together of bulk at most 1048576: NARROWER than '..Said'. Prove '..Said' where nothing that the law and all that it calls make is longer than what came in: it says more and counts as full. Else prove '..UptoSaid'. A law counts once. -/
mutual
def uptoBulk {H : Type} : DataW H → Nat
  | .lit (.string bytes) => bytes.length + 1
  | .lit _ => 1
  | .nil => 1
  | .ptr d => uptoBulk d + 1
  | .slice elems spare => uptoBulkAll elems + uptoBulkAll spare + 1
  | .agg parts => uptoBulkAll parts + 1
  | .iface _ d => uptoBulk d + 1
  | .map entries => uptoBulkEntries entries + 1
  | .held _ => 1
def uptoBulkAll {H : Type} : List (DataW H) → Nat
  | [] => 0
  | d :: r => uptoBulk d + uptoBulkAll r
def uptoBulkEntries {H : Type} : List (Lit × DataW H) → Nat
  | [] => 0
  | x :: r => uptoBulkEntry x + uptoBulkEntries r
def uptoBulkEntry {H : Type} : Lit × DataW H → Nat
  | (.string bytes, d) => bytes.length + uptoBulk d + 1
  | (_, d) => uptoBulk d + 1
 end
def uptoSmall : (H : Type) → List (DataW H) → Bool := fun _ ds => decide (uptoBulkAll ds ≤ 1048576)
def OpenSpec.upto (s : _root_.Go.ChangeSpec) : _root_.Go.OpenSpec := { _root_.Go.OpenSpec.ofChange s with cond := some uptoSmall }

/-- 'permafrostlaw18.StoreBack', WHERE WHAT IT READS IS OF BULK AT MOST 1048576: true; the input reads as it did. -/
def storeBackUptoRow : OpenClaim := { program := "ytdebiolekbldiaagreatdoor", sum := "13bf9e5ca59bf3caa884c820436223ed762d881a98a3b1bc877d7dfd06f71709", func := "permafrost/permafrostlaw18.StoreBack", spec := "storeBack", inPlace := ["internal/abi.NoEscape", "internal/bytealg.MakeNoZero"], unfollowed := true, recurses := true, named := ["permafrost/sum.roots"], apart := false, laid := [("permafrost/sum.roots", laid_permafrost_sum_roots)], narrowed := true }
def StoreBackUptoSaid : Prop := storeBackUptoRow.holds Tryz.pinned (OpenSpec.upto storeBackSpec)

/-- 'permafrostlaw18.StoreRoom', WHERE WHAT IT READS IS OF BULK AT MOST 1048576: true; the input reads as it did. -/
def storeRoomUptoRow : OpenClaim := { program := "ytdebiolekbldiaagreatdoor", sum := "13bf9e5ca59bf3caa884c820436223ed762d881a98a3b1bc877d7dfd06f71709", func := "permafrost/permafrostlaw18.StoreRoom", spec := "storeRoom", inPlace := ["internal/abi.NoEscape", "internal/bytealg.MakeNoZero"], unfollowed := true, recurses := true, named := ["permafrost/sum.roots"], apart := false, laid := [("permafrost/sum.roots", laid_permafrost_sum_roots)], narrowed := true }
def StoreRoomUptoSaid : Prop := storeRoomUptoRow.holds Tryz.pinned (OpenSpec.upto storeRoomSpec)

/-- 'permafrostlaw18.StoreCaches', WHERE WHAT IT READS IS OF BULK AT MOST 1048576: true; the input reads as it did. -/
def storeCachesUptoRow : OpenClaim := { program := "ytdebiolekbldiaagreatdoor", sum := "13bf9e5ca59bf3caa884c820436223ed762d881a98a3b1bc877d7dfd06f71709", func := "permafrost/permafrostlaw18.StoreCaches", spec := "storeCaches", inPlace := ["internal/abi.NoEscape", "internal/bytealg.MakeNoZero"], unfollowed := true, recurses := true, named := ["permafrost/sum.roots"], apart := false, laid := [("permafrost/sum.roots", laid_permafrost_sum_roots)], narrowed := true }
def StoreCachesUptoSaid : Prop := storeCachesUptoRow.holds Tryz.pinned (OpenSpec.upto storeCachesSpec)

/-- 'permafrostlaw18.StoreSettle', WHERE WHAT IT READS IS OF BULK AT MOST 1048576: true; the input reads as it did. -/
def storeSettleUptoRow : OpenClaim := { program := "ytdebiolekbldiaagreatdoor", sum := "13bf9e5ca59bf3caa884c820436223ed762d881a98a3b1bc877d7dfd06f71709", func := "permafrost/permafrostlaw18.StoreSettle", spec := "storeSettle", inPlace := ["internal/abi.NoEscape", "internal/bytealg.MakeNoZero"], unfollowed := true, recurses := true, named := ["permafrost/sum.roots"], apart := false, laid := [("permafrost/sum.roots", laid_permafrost_sum_roots)], narrowed := true }
def StoreSettleUptoSaid : Prop := storeSettleUptoRow.holds Tryz.pinned (OpenSpec.upto storeSettleSpec)

/-- 'permafrostlaw18.StoreTrue', WHERE WHAT IT READS IS OF BULK AT MOST 1048576: true; the input reads as it did. -/
def storeTrueUptoRow : OpenClaim := { program := "ytdebiolekbldiaagreatdoor", sum := "13bf9e5ca59bf3caa884c820436223ed762d881a98a3b1bc877d7dfd06f71709", func := "permafrost/permafrostlaw18.StoreTrue", spec := "storeTrue", inPlace := ["internal/abi.NoEscape", "internal/bytealg.MakeNoZero"], unfollowed := true, recurses := true, named := ["permafrost/sum.roots"], apart := false, laid := [("permafrost/sum.roots", laid_permafrost_sum_roots)], narrowed := true }
def StoreTrueUptoSaid : Prop := storeTrueUptoRow.holds Tryz.pinned (OpenSpec.upto storeTrueSpec)

end Rows
end Go.Proofs.YtdebiolekbldiaaGreatDoor
