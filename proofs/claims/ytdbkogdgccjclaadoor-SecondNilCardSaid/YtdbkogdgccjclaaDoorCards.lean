/-
  DERIVED. GIVEN WITH THE SEED: THE CARDS: each row of YtdbkogdgccjclaaDoorRows.lean that lists a variable, with what it lists TIED to the program's text (the seventh form; the later family's looks); each row that meets fmt, with fmt's text TOLD by the authors' own Lean function (tested against real Go, not proved from fmt's source: count such statements apart). THE CARD IS WHAT COUNTS. Prove the row's statement (the work); the ties are given (YtdbkogdgccjclaaDoorTie.lean); close each card by the builder's one call (the guide's Derived/Test/ToyasCard.lean, 'card_holds'). Laid BY PROGRAM, IN A SANDBOX (cutbox-door.mjs). By AI agents, Wed Nov 11 2026. No macro, syntax, notation, axiom, sorry.
-/
import Derived.Test.YtdbkogdgccjclaaDoorRows
import GoSem.ClaimSeven
namespace Go.Proofs.YtdbkogdgccjclaaDoor
namespace Rows

/-- THE TIED CARD OF 'permafrostlaw14.SecondLately'. -/
def secondLatelyCard : Claim7 := { stood := { row := secondLatelyRow, standIns := [], harness := (true, "952210af962d76cc871f61b3aea87fc0c4a63edefcaa35a07ec472122445a289"), looks := false }, kinds := [], alts := [], laidByText := true, laidKinds := [.data], laidTests := true, laidLooks := .later }
def SecondLatelyCardSaid : Prop := Claim7.holds Tryd.pinned (.plain (OpenSpec.ofChange secondLatelySpec)) secondLatelyCard

/-- THE TIED CARD OF 'permafrostlaw14.SecondNil'. -/
def secondNilCard : Claim7 := { stood := { row := secondNilRow, standIns := [], harness := (true, "952210af962d76cc871f61b3aea87fc0c4a63edefcaa35a07ec472122445a289"), looks := false }, kinds := [], alts := [], laidByText := true, laidKinds := [.data], laidTests := true, laidLooks := .later }
def SecondNilCardSaid : Prop := Claim7.holds Tryd.pinned (.plain (OpenSpec.ofChange secondNilSpec)) secondNilCard

/-- THE TIED CARD OF 'permafrostlaw14.SecondBounds'. -/
def secondBoundsCard : Claim7 := { stood := { row := secondBoundsRow, standIns := [], harness := (true, "952210af962d76cc871f61b3aea87fc0c4a63edefcaa35a07ec472122445a289"), looks := false }, kinds := [], alts := [], laidByText := true, laidKinds := [.data], laidTests := true, laidLooks := .later }
def SecondBoundsCardSaid : Prop := Claim7.holds Tryd.pinned (.plain (OpenSpec.ofChange secondBoundsSpec)) secondBoundsCard

/-- THE SECOND FORM's CARD OF 'permafrostlaw14.SecondLately'. -/
def secondLatelyUptoCard : Claim7 := { stood := { row := secondLatelyUptoRow, standIns := [], harness := (true, "952210af962d76cc871f61b3aea87fc0c4a63edefcaa35a07ec472122445a289"), looks := false }, kinds := [], alts := [], laidByText := true, laidKinds := [.data], laidTests := true, laidLooks := .later }
def SecondLatelyUptoCardSaid : Prop := Claim7.holds Tryd.pinned (.plain (OpenSpec.upto secondLatelySpec)) secondLatelyUptoCard

/-- THE SECOND FORM's CARD OF 'permafrostlaw14.SecondNil'. -/
def secondNilUptoCard : Claim7 := { stood := { row := secondNilUptoRow, standIns := [], harness := (true, "952210af962d76cc871f61b3aea87fc0c4a63edefcaa35a07ec472122445a289"), looks := false }, kinds := [], alts := [], laidByText := true, laidKinds := [.data], laidTests := true, laidLooks := .later }
def SecondNilUptoCardSaid : Prop := Claim7.holds Tryd.pinned (.plain (OpenSpec.upto secondNilSpec)) secondNilUptoCard

/-- THE SECOND FORM's CARD OF 'permafrostlaw14.SecondBounds'. -/
def secondBoundsUptoCard : Claim7 := { stood := { row := secondBoundsUptoRow, standIns := [], harness := (true, "952210af962d76cc871f61b3aea87fc0c4a63edefcaa35a07ec472122445a289"), looks := false }, kinds := [], alts := [], laidByText := true, laidKinds := [.data], laidTests := true, laidLooks := .later }
def SecondBoundsUptoCardSaid : Prop := Claim7.holds Tryd.pinned (.plain (OpenSpec.upto secondBoundsSpec)) secondBoundsUptoCard
end Rows
end Go.Proofs.YtdbkogdgccjclaaDoor
