/-
  DERIVED. GIVEN WITH THE SEED: THE CARDS: each row of YthgcjbniipfnbaaGreatDoorRows.lean that lists a variable, with what it lists TIED to the program's text (the seventh form; the later family's looks); each row that meets fmt, with fmt's text TOLD by the authors' own Lean function (tested against real Go, not proved from fmt's source: count such statements apart). THE CARD IS WHAT COUNTS. Prove the row's statement (the work); the ties are given (YthgcjbniipfnbaaGreatDoorTie.lean); close each card by the builder's one call (the guide's Derived/Test/ToyasCard.lean, 'card_holds'). Laid BY PROGRAM, IN A SANDBOX (cutbox-door.mjs). By AI agents, Wed Nov 11 2026. No macro, syntax, notation, axiom, sorry.
-/
import Derived.Test.YthgcjbniipfnbaaGreatDoorRows
import GoSem.ClaimSeven
namespace Go.Proofs.YthgcjbniipfnbaaGreatDoor
namespace Rows

/-- THE TIED CARD OF 'permafrostlaw24.ShellParses'. -/
def shellParsesCard : Claim7 := { stood := { row := shellParsesRow, standIns := [], harness := (true, "aeffbf42137a278eddedbadec8f72a968ee15ccc139c112621ee490e291ad56e"), looks := true }, kinds := [], alts := [], laidByText := true, laidKinds := [.data, .data, .data, .data, .sentinel, .sentinel, .data, .pinned], laidTests := true, laidLooks := .later }
def ShellParsesCardSaid : Prop := Claim7.holds Tryz.pinned (.plain (OpenSpec.ofChange shellParsesSpec)) shellParsesCard

/-- THE TIED CARD OF 'permafrostlaw24.ShellPrints'. -/
def shellPrintsCard : Claim7 := { stood := { row := shellPrintsRow, standIns := [], harness := (true, "aeffbf42137a278eddedbadec8f72a968ee15ccc139c112621ee490e291ad56e"), looks := true }, kinds := [], alts := [], laidByText := true, laidKinds := [.data, .data, .data, .data, .sentinel, .sentinel, .data, .pinned], laidTests := true, laidLooks := .later }
def ShellPrintsCardSaid : Prop := Claim7.holds Tryz.pinned (.plain (OpenSpec.ofChange shellPrintsSpec)) shellPrintsCard

/-- THE TIED CARD OF 'permafrostlaw24.ShellBack'. -/
def shellBackCard : Claim7 := { stood := { row := shellBackRow, standIns := [], harness := (true, "aeffbf42137a278eddedbadec8f72a968ee15ccc139c112621ee490e291ad56e"), looks := true }, kinds := [], alts := [], laidByText := true, laidKinds := [.data, .data, .data, .data, .sentinel, .sentinel, .data, .pinned], laidTests := true, laidLooks := .later }
def ShellBackCardSaid : Prop := Claim7.holds Tryz.pinned (.plain (OpenSpec.ofChange shellBackSpec)) shellBackCard

/-- THE TIED CARD OF 'permafrostlaw24.ShellNil'. -/
def shellNilCard : Claim7 := { stood := { row := shellNilRow, standIns := [], harness := (true, "aeffbf42137a278eddedbadec8f72a968ee15ccc139c112621ee490e291ad56e"), looks := true }, kinds := [], alts := [], laidByText := true, laidKinds := [.data, .data, .data, .data, .sentinel, .sentinel, .data, .pinned], laidTests := true, laidLooks := .later }
def ShellNilCardSaid : Prop := Claim7.holds Tryz.pinned (.plain (OpenSpec.ofChange shellNilSpec)) shellNilCard

/-- THE SECOND FORM's CARD OF 'permafrostlaw24.ShellParses'. -/
def shellParsesUptoCard : Claim7 := { stood := { row := shellParsesUptoRow, standIns := [], harness := (true, "aeffbf42137a278eddedbadec8f72a968ee15ccc139c112621ee490e291ad56e"), looks := true }, kinds := [], alts := [], laidByText := true, laidKinds := [.data, .data, .data, .data, .sentinel, .sentinel, .data, .pinned], laidTests := true, laidLooks := .later }
def ShellParsesUptoCardSaid : Prop := Claim7.holds Tryz.pinned (.plain (OpenSpec.upto shellParsesSpec)) shellParsesUptoCard

/-- THE SECOND FORM's CARD OF 'permafrostlaw24.ShellPrints'. -/
def shellPrintsUptoCard : Claim7 := { stood := { row := shellPrintsUptoRow, standIns := [], harness := (true, "aeffbf42137a278eddedbadec8f72a968ee15ccc139c112621ee490e291ad56e"), looks := true }, kinds := [], alts := [], laidByText := true, laidKinds := [.data, .data, .data, .data, .sentinel, .sentinel, .data, .pinned], laidTests := true, laidLooks := .later }
def ShellPrintsUptoCardSaid : Prop := Claim7.holds Tryz.pinned (.plain (OpenSpec.upto shellPrintsSpec)) shellPrintsUptoCard

/-- THE SECOND FORM's CARD OF 'permafrostlaw24.ShellBack'. -/
def shellBackUptoCard : Claim7 := { stood := { row := shellBackUptoRow, standIns := [], harness := (true, "aeffbf42137a278eddedbadec8f72a968ee15ccc139c112621ee490e291ad56e"), looks := true }, kinds := [], alts := [], laidByText := true, laidKinds := [.data, .data, .data, .data, .sentinel, .sentinel, .data, .pinned], laidTests := true, laidLooks := .later }
def ShellBackUptoCardSaid : Prop := Claim7.holds Tryz.pinned (.plain (OpenSpec.upto shellBackSpec)) shellBackUptoCard

/-- THE SECOND FORM's CARD OF 'permafrostlaw24.ShellNil'. -/
def shellNilUptoCard : Claim7 := { stood := { row := shellNilUptoRow, standIns := [], harness := (true, "aeffbf42137a278eddedbadec8f72a968ee15ccc139c112621ee490e291ad56e"), looks := true }, kinds := [], alts := [], laidByText := true, laidKinds := [.data, .data, .data, .data, .sentinel, .sentinel, .data, .pinned], laidTests := true, laidLooks := .later }
def ShellNilUptoCardSaid : Prop := Claim7.holds Tryz.pinned (.plain (OpenSpec.upto shellNilSpec)) shellNilUptoCard
end Rows
end Go.Proofs.YthgcjbniipfnbaaGreatDoor
