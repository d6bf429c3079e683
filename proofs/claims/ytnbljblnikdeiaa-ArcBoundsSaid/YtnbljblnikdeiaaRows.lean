/-
  No cell of these rows narrows 'for every input' (looked for: loops, veiled, ifaces, maps, wideKeys, modest, calm, conditions, laid).
  DERIVED. THE GIVEN ROWS OF THIS SEAT. 6 by the template 'for every input the law returns true; each argument reads behind the call as it read before'; 0 by the template 'total and deterministic' (their statements: YtnbljblnikdeiaaTotals.lean).
  GIVEN WITH THE SEED: the statements are not yours to turn. If you find one false, say at which input.
  Laid BY PROGRAM, IN A SANDBOX (cutbox-rows.mjs): the forced cells as the released guide's own fill.sh prints them over the translation 10ca4c58c5edbe01… (all of the seat's roots in one cut). By AI agents, Wed Nov 11 2026. No macro, syntax, notation, axiom, sorry.
-/
import Derived.Test.YtnbljblnikdeiaaChecked
import GoSem.Claim
import GoSem.ClaimJoined
import GoSem.ClaimMapViews
import Derived.JoinedTies
import Derived.KernelRfl
namespace Go.Proofs.Ytnbljblnikdeiaa
/- THE CELL 'sum', in the pinned program and in every row, IS THE sha256 OF THE DUMP (.gsa) THAT YtnbljblnikdeiaaProg.lean LOADS. Nothing in Lean hashes anything: it is a label: what it is worth is what the hold of that sum in a sandbox is worth. -/
noncomputable def Try.pinned : Pinned := { name := "ytnbljblnikdeiaa", sum := "10ca4c58c5edbe01081d93bed251c3b160098789c94f921d3c3017b5fa27330c", checked := Try.checked }
namespace Rows
def none {H : Type} : Left H := { results := [], args := [] }

/-- 'permafrostlaw11.ArcScripts': WHATEVER THE INPUT: true; the input reads as it did. -/
def arcScriptsSpec : ChangeSpec := { name := "arcScripts", fn := fun _ => fun
  | [d1, d2] => { results := [.lit (.bool true)], args := [d1, d2] }
  | _ => none }
def arcScriptsRow : OpenClaim := { program := "ytnbljblnikdeiaa", sum := "10ca4c58c5edbe01081d93bed251c3b160098789c94f921d3c3017b5fa27330c", func := "permafrost/permafrostlaw11.ArcScripts", spec := "arcScripts", unfollowed := true, recurses := true, apart := false }
def ArcScriptsSaid : Prop := arcScriptsRow.holds Try.pinned (OpenSpec.ofChange arcScriptsSpec)

/-- ITS FALSE NEIGHBOUR: 'it returns false'. Refute it at one input. -/
def arcScriptsWrong : ChangeSpec := { name := "arcScripts", fn := fun _ => fun
  | [d1, d2] => { results := [.lit (.bool false)], args := [d1, d2] }
  | _ => none }
def ArcScriptsWrongFalsely : Prop := arcScriptsRow.holds Try.pinned (OpenSpec.ofChange arcScriptsWrong)

/-- 'permafrostlaw11.ArcBounds': WHATEVER THE INPUT: true; the input reads as it did. -/
def arcBoundsSpec : ChangeSpec := { name := "arcBounds", fn := fun _ => fun
  | [d1, d2] => { results := [.lit (.bool true)], args := [d1, d2] }
  | _ => none }
def arcBoundsRow : OpenClaim := { program := "ytnbljblnikdeiaa", sum := "10ca4c58c5edbe01081d93bed251c3b160098789c94f921d3c3017b5fa27330c", func := "permafrost/permafrostlaw11.ArcBounds", spec := "arcBounds", unfollowed := true, recurses := true, apart := false }
def ArcBoundsSaid : Prop := arcBoundsRow.holds Try.pinned (OpenSpec.ofChange arcBoundsSpec)

/-- ITS FALSE NEIGHBOUR: 'it returns false'. Refute it at one input. -/
def arcBoundsWrong : ChangeSpec := { name := "arcBounds", fn := fun _ => fun
  | [d1, d2] => { results := [.lit (.bool false)], args := [d1, d2] }
  | _ => none }
def ArcBoundsWrongFalsely : Prop := arcBoundsRow.holds Try.pinned (OpenSpec.ofChange arcBoundsWrong)

/-- 'permafrostlaw11.ArcLeaves': WHATEVER THE INPUT: true; the input reads as it did. -/
def arcLeavesSpec : ChangeSpec := { name := "arcLeaves", fn := fun _ => fun
  | [d1, d2, d3] => { results := [.lit (.bool true)], args := [d1, d2, d3] }
  | _ => none }
def arcLeavesRow : OpenClaim := { program := "ytnbljblnikdeiaa", sum := "10ca4c58c5edbe01081d93bed251c3b160098789c94f921d3c3017b5fa27330c", func := "permafrost/permafrostlaw11.ArcLeaves", spec := "arcLeaves", unfollowed := true, recurses := true, apart := false }
def ArcLeavesSaid : Prop := arcLeavesRow.holds Try.pinned (OpenSpec.ofChange arcLeavesSpec)

/-- ITS FALSE NEIGHBOUR: 'it returns false'. Refute it at one input. -/
def arcLeavesWrong : ChangeSpec := { name := "arcLeaves", fn := fun _ => fun
  | [d1, d2, d3] => { results := [.lit (.bool false)], args := [d1, d2, d3] }
  | _ => none }
def ArcLeavesWrongFalsely : Prop := arcLeavesRow.holds Try.pinned (OpenSpec.ofChange arcLeavesWrong)

/-- 'permafrostlaw11.ArcNil': WHATEVER THE INPUT: true; the input reads as it did. -/
def arcNilSpec : ChangeSpec := { name := "arcNil", fn := fun _ => fun
  | [d] => { results := [.lit (.bool true)], args := [d] }
  | _ => none }
def arcNilRow : OpenClaim := { program := "ytnbljblnikdeiaa", sum := "10ca4c58c5edbe01081d93bed251c3b160098789c94f921d3c3017b5fa27330c", func := "permafrost/permafrostlaw11.ArcNil", spec := "arcNil", unfollowed := true, recurses := true, apart := false }
def ArcNilSaid : Prop := arcNilRow.holds Try.pinned (OpenSpec.ofChange arcNilSpec)

/-- ITS FALSE NEIGHBOUR: 'it returns false'. Refute it at one input. -/
def arcNilWrong : ChangeSpec := { name := "arcNil", fn := fun _ => fun
  | [d] => { results := [.lit (.bool false)], args := [d] }
  | _ => none }
def ArcNilWrongFalsely : Prop := arcNilRow.holds Try.pinned (OpenSpec.ofChange arcNilWrong)

/-- 'permafrostlaw11.ArcOnce': WHATEVER THE INPUT: true; the input reads as it did. -/
def arcOnceSpec : ChangeSpec := { name := "arcOnce", fn := fun _ => fun
  | [d1, d2] => { results := [.lit (.bool true)], args := [d1, d2] }
  | _ => none }
def arcOnceRow : OpenClaim := { program := "ytnbljblnikdeiaa", sum := "10ca4c58c5edbe01081d93bed251c3b160098789c94f921d3c3017b5fa27330c", func := "permafrost/permafrostlaw11.ArcOnce", spec := "arcOnce", unfollowed := true, recurses := true, apart := false }
def ArcOnceSaid : Prop := arcOnceRow.holds Try.pinned (OpenSpec.ofChange arcOnceSpec)

/-- ITS FALSE NEIGHBOUR: 'it returns false'. Refute it at one input. -/
def arcOnceWrong : ChangeSpec := { name := "arcOnce", fn := fun _ => fun
  | [d1, d2] => { results := [.lit (.bool false)], args := [d1, d2] }
  | _ => none }
def ArcOnceWrongFalsely : Prop := arcOnceRow.holds Try.pinned (OpenSpec.ofChange arcOnceWrong)

/-- 'permafrostlaw11.ArcAgain': WHATEVER THE INPUT: true; the input reads as it did. -/
def arcAgainSpec : ChangeSpec := { name := "arcAgain", fn := fun _ => fun
  | [d1, d2, d3] => { results := [.lit (.bool true)], args := [d1, d2, d3] }
  | _ => none }
def arcAgainRow : OpenClaim := { program := "ytnbljblnikdeiaa", sum := "10ca4c58c5edbe01081d93bed251c3b160098789c94f921d3c3017b5fa27330c", func := "permafrost/permafrostlaw11.ArcAgain", spec := "arcAgain", unfollowed := true, recurses := true, apart := false }
def ArcAgainSaid : Prop := arcAgainRow.holds Try.pinned (OpenSpec.ofChange arcAgainSpec)

/-- ITS FALSE NEIGHBOUR: 'it returns false'. Refute it at one input. -/
def arcAgainWrong : ChangeSpec := { name := "arcAgain", fn := fun _ => fun
  | [d1, d2, d3] => { results := [.lit (.bool false)], args := [d1, d2, d3] }
  | _ => none }
def ArcAgainWrongFalsely : Prop := arcAgainRow.holds Try.pinned (OpenSpec.ofChange arcAgainWrong)

/- THE SECOND FORM. 'bulk': how many values and letters a reading holds, each counted each time it is reached (what is shared counts as often as it is met; a slice's spare places count too). A statement '..UptoSaid' is the law's where the arguments, and the package variables that the reading takes, are together of bulk at most 1048576: NARROWER than '..Said'. Prove '..Said' where nothing that the law and all that it calls make is longer than what came in: it says more and counts as full. Else prove '..UptoSaid'. A law counts once. -/
mutual
def uptoBulk {H : Type} : DataW H → Nat
  | .lit (.string bytes) => bytes.length + 1
  | .lit _ => 1
  | .nil => 1
  | .ptr d => uptoBulk d + 1
  | .slice elems spare => uptoBulkAll elems + uptoBulkAll spare + 1
  | .agg parts => uptoBulkAll parts + 1
  | .iface _ d => uptoBulk d + 1
  | .map entries => uptoBulkEntries entries + 1
  | .held _ => 1
def uptoBulkAll {H : Type} : List (DataW H) → Nat
  | [] => 0
  | d :: r => uptoBulk d + uptoBulkAll r
def uptoBulkEntries {H : Type} : List (Lit × DataW H) → Nat
  | [] => 0
  | x :: r => uptoBulkEntry x + uptoBulkEntries r
def uptoBulkEntry {H : Type} : Lit × DataW H → Nat
  | (.string bytes, d) => bytes.length + uptoBulk d + 1
  | (_, d) => uptoBulk d + 1
 end
def uptoSmall : (H : Type) → List (DataW H) → Bool := fun _ ds => decide (uptoBulkAll ds ≤ 1048576)
def OpenSpec.upto (s : _root_.Go.ChangeSpec) : _root_.Go.OpenSpec := { _root_.Go.OpenSpec.ofChange s with cond := some uptoSmall }

/-- 'permafrostlaw11.ArcScripts', WHERE WHAT IT READS IS OF BULK AT MOST 1048576: true; the input reads as it did. -/
def arcScriptsUptoRow : OpenClaim := { program := "ytnbljblnikdeiaa", sum := "10ca4c58c5edbe01081d93bed251c3b160098789c94f921d3c3017b5fa27330c", func := "permafrost/permafrostlaw11.ArcScripts", spec := "arcScripts", unfollowed := true, recurses := true, apart := false, narrowed := true }
def ArcScriptsUptoSaid : Prop := arcScriptsUptoRow.holds Try.pinned (OpenSpec.upto arcScriptsSpec)

/-- 'permafrostlaw11.ArcBounds', WHERE WHAT IT READS IS OF BULK AT MOST 1048576: true; the input reads as it did. -/
def arcBoundsUptoRow : OpenClaim := { program := "ytnbljblnikdeiaa", sum := "10ca4c58c5edbe01081d93bed251c3b160098789c94f921d3c3017b5fa27330c", func := "permafrost/permafrostlaw11.ArcBounds", spec := "arcBounds", unfollowed := true, recurses := true, apart := false, narrowed := true }
def ArcBoundsUptoSaid : Prop := arcBoundsUptoRow.holds Try.pinned (OpenSpec.upto arcBoundsSpec)

/-- 'permafrostlaw11.ArcLeaves', WHERE WHAT IT READS IS OF BULK AT MOST 1048576: true; the input reads as it did. -/
def arcLeavesUptoRow : OpenClaim := { program := "ytnbljblnikdeiaa", sum := "10ca4c58c5edbe01081d93bed251c3b160098789c94f921d3c3017b5fa27330c", func := "permafrost/permafrostlaw11.ArcLeaves", spec := "arcLeaves", unfollowed := true, recurses := true, apart := false, narrowed := true }
def ArcLeavesUptoSaid : Prop := arcLeavesUptoRow.holds Try.pinned (OpenSpec.upto arcLeavesSpec)

/-- 'permafrostlaw11.ArcNil', WHERE WHAT IT READS IS OF BULK AT MOST 1048576: true; the input reads as it did. -/
def arcNilUptoRow : OpenClaim := { program := "ytnbljblnikdeiaa", sum := "10ca4c58c5edbe01081d93bed251c3b160098789c94f921d3c3017b5fa27330c", func := "permafrost/permafrostlaw11.ArcNil", spec := "arcNil", unfollowed := true, recurses := true, apart := false, narrowed := true }
def ArcNilUptoSaid : Prop := arcNilUptoRow.holds Try.pinned (OpenSpec.upto arcNilSpec)

/-- 'permafrostlaw11.ArcOnce', WHERE WHAT IT READS IS OF BULK AT MOST 1048576: true; the input reads as it did. -/
def arcOnceUptoRow : OpenClaim := { program := "ytnbljblnikdeiaa", sum := "10ca4c58c5edbe01081d93bed251c3b160098789c94f921d3c3017b5fa27330c", func := "permafrost/permafrostlaw11.ArcOnce", spec := "arcOnce", unfollowed := true, recurses := true, apart := false, narrowed := true }
def ArcOnceUptoSaid : Prop := arcOnceUptoRow.holds Try.pinned (OpenSpec.upto arcOnceSpec)

/-- 'permafrostlaw11.ArcAgain', WHERE WHAT IT READS IS OF BULK AT MOST 1048576: true; the input reads as it did. -/
def arcAgainUptoRow : OpenClaim := { program := "ytnbljblnikdeiaa", sum := "10ca4c58c5edbe01081d93bed251c3b160098789c94f921d3c3017b5fa27330c", func := "permafrost/permafrostlaw11.ArcAgain", spec := "arcAgain", unfollowed := true, recurses := true, apart := false, narrowed := true }
def ArcAgainUptoSaid : Prop := arcAgainUptoRow.holds Try.pinned (OpenSpec.upto arcAgainSpec)

end Rows
end Go.Proofs.Ytnbljblnikdeiaa
