/-
  NARROWER THAN 'FOR EVERY INPUT', by the rows' own cells (each row's printed sentence says how): ClogEncodes: laid · ClogDecodes: laid · ClogMerges: laid · ClogTail: laid · ClogBack: laid.
  DERIVED. THE GIVEN ROWS OF THIS SEAT. 5 by the template 'for every input the law returns true; each argument reads behind the call as it read before'; 0 by the template 'total and deterministic' (their statements: YthdgjjggndfbhaaDoorTotals.lean).
  GIVEN WITH THE SEED: the statements are not yours to turn. If you find one false, say at which input.
  Laid BY PROGRAM, IN A SANDBOX (cutbox-rows.mjs): the forced cells as the released guide's own fill.sh prints them over the translation 515a7e874405b040… (all of the seat's roots in one cut). By AI agents, Wed Nov 11 2026. No macro, syntax, notation, axiom, sorry.
-/
import Derived.Test.YthdgjjggndfbhaaDoorChecked
import GoSem.Claim
import GoSem.ClaimJoined
import GoSem.ClaimMapViews
import Derived.JoinedTies
import Derived.KernelRfl
namespace Go.Proofs.YthdgjjggndfbhaaDoor
/- THE CELL 'sum', in the pinned program and in every row, IS THE sha256 OF THE DUMP (.gsa) THAT YthdgjjggndfbhaaDoorProg.lean LOADS. Nothing in Lean hashes anything: it is a label: what it is worth is what the hold of that sum in a sandbox is worth. -/
noncomputable def Tryd.pinned : Pinned := { name := "ythdgjjggndfbhaadoor", sum := "515a7e874405b04009da173419ea4faec51948bf95f6a5139e19cc40cd446e7b", checked := Tryd.checked }
namespace Rows
def none {H : Type} : Left H := { results := [], args := [] }

/- WHAT THE LISTED PACKAGE-LEVEL VARIABLES READ AS WHEN THE CALL BEGINS. Each datum BY PROGRAM (the guide's laid-datum.mjs) off the statement by which the dump's own 'gosem.cut.vars' lays the variable. In a bare row this is a premise. The card (YthdgjjggndfbhaaDoorCards.lean) ties it to the program's text. -/
def laid_permafrost_sum_roots {H : Type} : DataW H := .agg [.lit (.int .u32 1116352408), .lit (.int .u32 1899447441), .lit (.int .u32 3049323471), .lit (.int .u32 3921009573), .lit (.int .u32 961987163), .lit (.int .u32 1508970993), .lit (.int .u32 2453635748), .lit (.int .u32 2870763221), .lit (.int .u32 3624381080), .lit (.int .u32 310598401), .lit (.int .u32 607225278), .lit (.int .u32 1426881987), .lit (.int .u32 1925078388), .lit (.int .u32 2162078206), .lit (.int .u32 2614888103), .lit (.int .u32 3248222580), .lit (.int .u32 3835390401), .lit (.int .u32 4022224774), .lit (.int .u32 264347078), .lit (.int .u32 604807628), .lit (.int .u32 770255983), .lit (.int .u32 1249150122), .lit (.int .u32 1555081692), .lit (.int .u32 1996064986), .lit (.int .u32 2554220882), .lit (.int .u32 2821834349), .lit (.int .u32 2952996808), .lit (.int .u32 3210313671), .lit (.int .u32 3336571891), .lit (.int .u32 3584528711), .lit (.int .u32 113926993), .lit (.int .u32 338241895), .lit (.int .u32 666307205), .lit (.int .u32 773529912), .lit (.int .u32 1294757372), .lit (.int .u32 1396182291), .lit (.int .u32 1695183700), .lit (.int .u32 1986661051), .lit (.int .u32 2177026350), .lit (.int .u32 2456956037), .lit (.int .u32 2730485921), .lit (.int .u32 2820302411), .lit (.int .u32 3259730800), .lit (.int .u32 3345764771), .lit (.int .u32 3516065817), .lit (.int .u32 3600352804), .lit (.int .u32 4094571909), .lit (.int .u32 275423344), .lit (.int .u32 430227734), .lit (.int .u32 506948616), .lit (.int .u32 659060556), .lit (.int .u32 883997877), .lit (.int .u32 958139571), .lit (.int .u32 1322822218), .lit (.int .u32 1537002063), .lit (.int .u32 1747873779), .lit (.int .u32 1955562222), .lit (.int .u32 2024104815), .lit (.int .u32 2227730452), .lit (.int .u32 2361852424), .lit (.int .u32 2428436474), .lit (.int .u32 2756734187), .lit (.int .u32 3204031479), .lit (.int .u32 3329325298)]

/-- 'permafrostlaw13.ClogEncodes': WHATEVER THE INPUT: true; the input reads as it did. -/
def clogEncodesSpec : ChangeSpec := { name := "clogEncodes", fn := fun _ => fun
  | [d] => { results := [.lit (.bool true)], args := [d] }
  | _ => none }
def clogEncodesRow : OpenClaim := { program := "ythdgjjggndfbhaadoor", sum := "515a7e874405b04009da173419ea4faec51948bf95f6a5139e19cc40cd446e7b", func := "permafrost/permafrostlaw13.ClogEncodes", spec := "clogEncodes", inPlace := ["internal/abi.NoEscape", "internal/bytealg.MakeNoZero"], unfollowed := true, recurses := true, named := ["permafrost/sum.roots"], apart := false, laid := [("permafrost/sum.roots", laid_permafrost_sum_roots)] }
def ClogEncodesSaid : Prop := clogEncodesRow.holds Tryd.pinned (OpenSpec.ofChange clogEncodesSpec)

/-- ITS FALSE NEIGHBOUR: 'it returns false'. Refute it at one input. -/
def clogEncodesWrong : ChangeSpec := { name := "clogEncodes", fn := fun _ => fun
  | [d] => { results := [.lit (.bool false)], args := [d] }
  | _ => none }
def ClogEncodesWrongFalsely : Prop := clogEncodesRow.holds Tryd.pinned (OpenSpec.ofChange clogEncodesWrong)

/-- 'permafrostlaw13.ClogDecodes': WHATEVER THE INPUT: true; the input reads as it did. -/
def clogDecodesSpec : ChangeSpec := { name := "clogDecodes", fn := fun _ => fun
  | [d] => { results := [.lit (.bool true)], args := [d] }
  | _ => none }
def clogDecodesRow : OpenClaim := { program := "ythdgjjggndfbhaadoor", sum := "515a7e874405b04009da173419ea4faec51948bf95f6a5139e19cc40cd446e7b", func := "permafrost/permafrostlaw13.ClogDecodes", spec := "clogDecodes", inPlace := ["internal/abi.NoEscape", "internal/bytealg.MakeNoZero"], unfollowed := true, recurses := true, named := ["permafrost/sum.roots"], apart := false, laid := [("permafrost/sum.roots", laid_permafrost_sum_roots)] }
def ClogDecodesSaid : Prop := clogDecodesRow.holds Tryd.pinned (OpenSpec.ofChange clogDecodesSpec)

/-- ITS FALSE NEIGHBOUR: 'it returns false'. Refute it at one input. -/
def clogDecodesWrong : ChangeSpec := { name := "clogDecodes", fn := fun _ => fun
  | [d] => { results := [.lit (.bool false)], args := [d] }
  | _ => none }
def ClogDecodesWrongFalsely : Prop := clogDecodesRow.holds Tryd.pinned (OpenSpec.ofChange clogDecodesWrong)

/-- 'permafrostlaw13.ClogMerges': WHATEVER THE INPUT: true; the input reads as it did. -/
def clogMergesSpec : ChangeSpec := { name := "clogMerges", fn := fun _ => fun
  | [d] => { results := [.lit (.bool true)], args := [d] }
  | _ => none }
def clogMergesRow : OpenClaim := { program := "ythdgjjggndfbhaadoor", sum := "515a7e874405b04009da173419ea4faec51948bf95f6a5139e19cc40cd446e7b", func := "permafrost/permafrostlaw13.ClogMerges", spec := "clogMerges", inPlace := ["internal/abi.NoEscape", "internal/bytealg.MakeNoZero"], unfollowed := true, recurses := true, named := ["permafrost/sum.roots"], apart := false, laid := [("permafrost/sum.roots", laid_permafrost_sum_roots)] }
def ClogMergesSaid : Prop := clogMergesRow.holds Tryd.pinned (OpenSpec.ofChange clogMergesSpec)

/-- ITS FALSE NEIGHBOUR: 'it returns false'. Refute it at one input. -/
def clogMergesWrong : ChangeSpec := { name := "clogMerges", fn := fun _ => fun
  | [d] => { results := [.lit (.bool false)], args := [d] }
  | _ => none }
def ClogMergesWrongFalsely : Prop := clogMergesRow.holds Tryd.pinned (OpenSpec.ofChange clogMergesWrong)

/-- 'permafrostlaw13.ClogTail': WHATEVER THE INPUT: true; the input reads as it did. -/
def clogTailSpec : ChangeSpec := { name := "clogTail", fn := fun _ => fun
  | [d1, d2, d3] => { results := [.lit (.bool true)], args := [d1, d2, d3] }
  | _ => none }
def clogTailRow : OpenClaim := { program := "ythdgjjggndfbhaadoor", sum := "515a7e874405b04009da173419ea4faec51948bf95f6a5139e19cc40cd446e7b", func := "permafrost/permafrostlaw13.ClogTail", spec := "clogTail", inPlace := ["internal/abi.NoEscape", "internal/bytealg.MakeNoZero"], unfollowed := true, recurses := true, named := ["permafrost/sum.roots"], apart := false, laid := [("permafrost/sum.roots", laid_permafrost_sum_roots)] }
def ClogTailSaid : Prop := clogTailRow.holds Tryd.pinned (OpenSpec.ofChange clogTailSpec)

/-- ITS FALSE NEIGHBOUR: 'it returns false'. Refute it at one input. -/
def clogTailWrong : ChangeSpec := { name := "clogTail", fn := fun _ => fun
  | [d1, d2, d3] => { results := [.lit (.bool false)], args := [d1, d2, d3] }
  | _ => none }
def ClogTailWrongFalsely : Prop := clogTailRow.holds Tryd.pinned (OpenSpec.ofChange clogTailWrong)

/-- 'permafrostlaw13.ClogBack': WHATEVER THE INPUT: true; the input reads as it did. -/
def clogBackSpec : ChangeSpec := { name := "clogBack", fn := fun _ => fun
  | [d] => { results := [.lit (.bool true)], args := [d] }
  | _ => none }
def clogBackRow : OpenClaim := { program := "ythdgjjggndfbhaadoor", sum := "515a7e874405b04009da173419ea4faec51948bf95f6a5139e19cc40cd446e7b", func := "permafrost/permafrostlaw13.ClogBack", spec := "clogBack", inPlace := ["internal/abi.NoEscape", "internal/bytealg.MakeNoZero"], unfollowed := true, recurses := true, named := ["permafrost/sum.roots"], apart := false, laid := [("permafrost/sum.roots", laid_permafrost_sum_roots)] }
def ClogBackSaid : Prop := clogBackRow.holds Tryd.pinned (OpenSpec.ofChange clogBackSpec)

/-- ITS FALSE NEIGHBOUR: 'it returns false'. Refute it at one input. -/
def clogBackWrong : ChangeSpec := { name := "clogBack", fn := fun _ => fun
  | [d] => { results := [.lit (.bool false)], args := [d] }
  | _ => none }
def ClogBackWrongFalsely : Prop := clogBackRow.holds Tryd.pinned (OpenSpec.ofChange clogBackWrong)

/- THE SECOND FORM. 'bulk': how many values and letters a reading holds, each counted each time it is reached (what is shared counts as often as it is met; a slice's spare places count too). A statement '..UptoSaid' is the law's where the arguments, and the package variables that the reading takes, are together of bulk at most 1048576: NARROWER than '..Said'. Prove '..Said' where nothing that the law and all that it calls make is longer than what came in: it says more and counts as full. Else prove '..UptoSaid'. A law counts once. -/
mutual
def uptoBulk {H : Type} : DataW H → Nat
  | .lit (.string bytes) => bytes.length + 1
  | .lit _ => 1
  | .nil => 1
  | .ptr d => uptoBulk d + 1
  | .slice elems spare => uptoBulkAll elems + uptoBulkAll spare + 1
  | .agg parts => uptoBulkAll parts + 1
  | .iface _ d => uptoBulk d + 1
  | .map entries => uptoBulkEntries entries + 1
  | .held _ => 1
def uptoBulkAll {H : Type} : List (DataW H) → Nat
  | [] => 0
  | d :: r => uptoBulk d + uptoBulkAll r
def uptoBulkEntries {H : Type} : List (Lit × DataW H) → Nat
  | [] => 0
  | x :: r => uptoBulkEntry x + uptoBulkEntries r
def uptoBulkEntry {H : Type} : Lit × DataW H → Nat
  | (.string bytes, d) => bytes.length + uptoBulk d + 1
  | (_, d) => uptoBulk d + 1
 end
def uptoSmall : (H : Type) → List (DataW H) → Bool := fun _ ds => decide (uptoBulkAll ds ≤ 1048576)
def OpenSpec.upto (s : _root_.Go.ChangeSpec) : _root_.Go.OpenSpec := { _root_.Go.OpenSpec.ofChange s with cond := some uptoSmall }

/-- 'permafrostlaw13.ClogEncodes', WHERE WHAT IT READS IS OF BULK AT MOST 1048576: true; the input reads as it did. -/
def clogEncodesUptoRow : OpenClaim := { program := "ythdgjjggndfbhaadoor", sum := "515a7e874405b04009da173419ea4faec51948bf95f6a5139e19cc40cd446e7b", func := "permafrost/permafrostlaw13.ClogEncodes", spec := "clogEncodes", inPlace := ["internal/abi.NoEscape", "internal/bytealg.MakeNoZero"], unfollowed := true, recurses := true, named := ["permafrost/sum.roots"], apart := false, laid := [("permafrost/sum.roots", laid_permafrost_sum_roots)], narrowed := true }
def ClogEncodesUptoSaid : Prop := clogEncodesUptoRow.holds Tryd.pinned (OpenSpec.upto clogEncodesSpec)

/-- 'permafrostlaw13.ClogDecodes', WHERE WHAT IT READS IS OF BULK AT MOST 1048576: true; the input reads as it did. -/
def clogDecodesUptoRow : OpenClaim := { program := "ythdgjjggndfbhaadoor", sum := "515a7e874405b04009da173419ea4faec51948bf95f6a5139e19cc40cd446e7b", func := "permafrost/permafrostlaw13.ClogDecodes", spec := "clogDecodes", inPlace := ["internal/abi.NoEscape", "internal/bytealg.MakeNoZero"], unfollowed := true, recurses := true, named := ["permafrost/sum.roots"], apart := false, laid := [("permafrost/sum.roots", laid_permafrost_sum_roots)], narrowed := true }
def ClogDecodesUptoSaid : Prop := clogDecodesUptoRow.holds Tryd.pinned (OpenSpec.upto clogDecodesSpec)

/-- 'permafrostlaw13.ClogMerges', WHERE WHAT IT READS IS OF BULK AT MOST 1048576: true; the input reads as it did. -/
def clogMergesUptoRow : OpenClaim := { program := "ythdgjjggndfbhaadoor", sum := "515a7e874405b04009da173419ea4faec51948bf95f6a5139e19cc40cd446e7b", func := "permafrost/permafrostlaw13.ClogMerges", spec := "clogMerges", inPlace := ["internal/abi.NoEscape", "internal/bytealg.MakeNoZero"], unfollowed := true, recurses := true, named := ["permafrost/sum.roots"], apart := false, laid := [("permafrost/sum.roots", laid_permafrost_sum_roots)], narrowed := true }
def ClogMergesUptoSaid : Prop := clogMergesUptoRow.holds Tryd.pinned (OpenSpec.upto clogMergesSpec)

/-- 'permafrostlaw13.ClogTail', WHERE WHAT IT READS IS OF BULK AT MOST 1048576: true; the input reads as it did. -/
def clogTailUptoRow : OpenClaim := { program := "ythdgjjggndfbhaadoor", sum := "515a7e874405b04009da173419ea4faec51948bf95f6a5139e19cc40cd446e7b", func := "permafrost/permafrostlaw13.ClogTail", spec := "clogTail", inPlace := ["internal/abi.NoEscape", "internal/bytealg.MakeNoZero"], unfollowed := true, recurses := true, named := ["permafrost/sum.roots"], apart := false, laid := [("permafrost/sum.roots", laid_permafrost_sum_roots)], narrowed := true }
def ClogTailUptoSaid : Prop := clogTailUptoRow.holds Tryd.pinned (OpenSpec.upto clogTailSpec)

/-- 'permafrostlaw13.ClogBack', WHERE WHAT IT READS IS OF BULK AT MOST 1048576: true; the input reads as it did. -/
def clogBackUptoRow : OpenClaim := { program := "ythdgjjggndfbhaadoor", sum := "515a7e874405b04009da173419ea4faec51948bf95f6a5139e19cc40cd446e7b", func := "permafrost/permafrostlaw13.ClogBack", spec := "clogBack", inPlace := ["internal/abi.NoEscape", "internal/bytealg.MakeNoZero"], unfollowed := true, recurses := true, named := ["permafrost/sum.roots"], apart := false, laid := [("permafrost/sum.roots", laid_permafrost_sum_roots)], narrowed := true }
def ClogBackUptoSaid : Prop := clogBackUptoRow.holds Tryd.pinned (OpenSpec.upto clogBackSpec)

end Rows
end Go.Proofs.YthdgjjggndfbhaaDoor
