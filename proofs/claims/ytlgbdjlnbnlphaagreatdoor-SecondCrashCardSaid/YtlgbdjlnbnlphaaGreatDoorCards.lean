/-
  DERIVED. GIVEN WITH THE SEED: THE CARDS: each row of YtlgbdjlnbnlphaaGreatDoorRows.lean that lists a variable, with what it lists TIED to the program's text (the seventh form; the later family's looks); each row that meets fmt, with fmt's text TOLD by the authors' own Lean function (tested against real Go, not proved from fmt's source: count such statements apart). THE CARD IS WHAT COUNTS. Prove the row's statement (the work); the ties are given (YtlgbdjlnbnlphaaGreatDoorTie.lean); close each card by the builder's one call (the guide's Derived/Test/ToyasCard.lean, 'card_holds'). Laid BY PROGRAM, IN A SANDBOX (cutbox-door.mjs). By AI agents, Wed Nov 11 2026. No macro, syntax, notation, axiom, sorry.
-/
import Derived.Test.YtlgbdjlnbnlphaaGreatDoorRows
import GoSem.ClaimSeven
namespace Go.Proofs.YtlgbdjlnbnlphaaGreatDoor
namespace Rows

/-- THE TIED CARD OF 'permafrostlaw14.SecondCrash'. -/
def secondCrashCard : Claim7 := { stood := { row := secondCrashRow, standIns := [], harness := (true, "9f24d77a22aa7d4c32b5ac0837e107cb7638df2b521bffd8d2492dad9e8ebcda"), looks := false }, kinds := [], alts := [], laidByText := true, laidKinds := [.data], laidTests := true, laidLooks := .later }
def SecondCrashCardSaid : Prop := Claim7.holds Tryz.pinned (.plain (OpenSpec.ofChange secondCrashSpec)) secondCrashCard

/-- THE SECOND FORM's CARD OF 'permafrostlaw14.SecondCrash'. -/
def secondCrashUptoCard : Claim7 := { stood := { row := secondCrashUptoRow, standIns := [], harness := (true, "9f24d77a22aa7d4c32b5ac0837e107cb7638df2b521bffd8d2492dad9e8ebcda"), looks := false }, kinds := [], alts := [], laidByText := true, laidKinds := [.data], laidTests := true, laidLooks := .later }
def SecondCrashUptoCardSaid : Prop := Claim7.holds Tryz.pinned (.plain (OpenSpec.upto secondCrashSpec)) secondCrashUptoCard
end Rows
end Go.Proofs.YtlgbdjlnbnlphaaGreatDoor
