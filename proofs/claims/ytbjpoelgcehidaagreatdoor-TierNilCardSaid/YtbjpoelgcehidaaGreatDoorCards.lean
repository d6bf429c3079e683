/-
  DERIVED. GIVEN WITH THE SEED: THE CARDS: each row of YtbjpoelgcehidaaGreatDoorRows.lean that lists a variable, with what it lists TIED to the program's text (the seventh form; the later family's looks); each row that meets fmt, with fmt's text TOLD by the authors' own Lean function (tested against real Go, not proved from fmt's source: count such statements apart). THE CARD IS WHAT COUNTS. Prove the row's statement (the work); the ties are given (YtbjpoelgcehidaaGreatDoorTie.lean); close each card by the builder's one call (the guide's Derived/Test/ToyasCard.lean, 'card_holds'). Laid BY PROGRAM, IN A SANDBOX (cutbox-door.mjs). By AI agents, Wed Nov 11 2026. No macro, syntax, notation, axiom, sorry.
-/
import Derived.Test.YtbjpoelgcehidaaGreatDoorRows
import GoSem.ClaimSeven
namespace Go.Proofs.YtbjpoelgcehidaaGreatDoor
namespace Rows

/-- THE TIED CARD OF 'permafrostlaw22.CensusNil'. -/
def censusNilCard : Claim7 := { stood := { row := censusNilRow, standIns := [], harness := (true, "6c2f0bc0e881af32b8ee2fe9d8e380be5acdcf21fdd28a1a105b5f749536e71c"), looks := true }, kinds := [], alts := [], laidByText := true, laidKinds := [.data, .data, .data, .data, .sentinel, .sentinel, .data, .pinned], laidTests := true, laidLooks := .later }
def CensusNilCardSaid : Prop := Claim7.holds Tryz.pinned (.plain (OpenSpec.ofChange censusNilSpec)) censusNilCard

/-- THE TIED CARD OF 'permafrostlaw20.PoolNil'. -/
def poolNilCard : Claim7 := { stood := { row := poolNilRow, standIns := [], harness := (true, "6c2f0bc0e881af32b8ee2fe9d8e380be5acdcf21fdd28a1a105b5f749536e71c"), looks := true }, kinds := [], alts := [], laidByText := true, laidKinds := [.data, .data, .data, .data, .sentinel, .sentinel, .data, .pinned], laidTests := true, laidLooks := .later }
def PoolNilCardSaid : Prop := Claim7.holds Tryz.pinned (.plain (OpenSpec.ofChange poolNilSpec)) poolNilCard

/-- THE TIED CARD OF 'permafrostlaw21.TierNil'. -/
def tierNilCard : Claim7 := { stood := { row := tierNilRow, standIns := [], harness := (true, "6c2f0bc0e881af32b8ee2fe9d8e380be5acdcf21fdd28a1a105b5f749536e71c"), looks := true }, kinds := [], alts := [], laidByText := true, laidKinds := [.data, .data, .data, .data, .sentinel, .sentinel, .data, .pinned], laidTests := true, laidLooks := .later }
def TierNilCardSaid : Prop := Claim7.holds Tryz.pinned (.plain (OpenSpec.ofChange tierNilSpec)) tierNilCard

/-- THE TIED CARD OF 'permafrostlaw23.ScriptNil'. -/
def scriptNilCard : Claim7 := { stood := { row := scriptNilRow, standIns := [], harness := (true, "6c2f0bc0e881af32b8ee2fe9d8e380be5acdcf21fdd28a1a105b5f749536e71c"), looks := true }, kinds := [], alts := [], laidByText := true, laidKinds := [.data, .data, .data, .data, .sentinel, .sentinel, .data, .pinned], laidTests := true, laidLooks := .later }
def ScriptNilCardSaid : Prop := Claim7.holds Tryz.pinned (.plain (OpenSpec.ofChange scriptNilSpec)) scriptNilCard

/-- THE SECOND FORM's CARD OF 'permafrostlaw22.CensusNil'. -/
def censusNilUptoCard : Claim7 := { stood := { row := censusNilUptoRow, standIns := [], harness := (true, "6c2f0bc0e881af32b8ee2fe9d8e380be5acdcf21fdd28a1a105b5f749536e71c"), looks := true }, kinds := [], alts := [], laidByText := true, laidKinds := [.data, .data, .data, .data, .sentinel, .sentinel, .data, .pinned], laidTests := true, laidLooks := .later }
def CensusNilUptoCardSaid : Prop := Claim7.holds Tryz.pinned (.plain (OpenSpec.upto censusNilSpec)) censusNilUptoCard

/-- THE SECOND FORM's CARD OF 'permafrostlaw20.PoolNil'. -/
def poolNilUptoCard : Claim7 := { stood := { row := poolNilUptoRow, standIns := [], harness := (true, "6c2f0bc0e881af32b8ee2fe9d8e380be5acdcf21fdd28a1a105b5f749536e71c"), looks := true }, kinds := [], alts := [], laidByText := true, laidKinds := [.data, .data, .data, .data, .sentinel, .sentinel, .data, .pinned], laidTests := true, laidLooks := .later }
def PoolNilUptoCardSaid : Prop := Claim7.holds Tryz.pinned (.plain (OpenSpec.upto poolNilSpec)) poolNilUptoCard

/-- THE SECOND FORM's CARD OF 'permafrostlaw21.TierNil'. -/
def tierNilUptoCard : Claim7 := { stood := { row := tierNilUptoRow, standIns := [], harness := (true, "6c2f0bc0e881af32b8ee2fe9d8e380be5acdcf21fdd28a1a105b5f749536e71c"), looks := true }, kinds := [], alts := [], laidByText := true, laidKinds := [.data, .data, .data, .data, .sentinel, .sentinel, .data, .pinned], laidTests := true, laidLooks := .later }
def TierNilUptoCardSaid : Prop := Claim7.holds Tryz.pinned (.plain (OpenSpec.upto tierNilSpec)) tierNilUptoCard

/-- THE SECOND FORM's CARD OF 'permafrostlaw23.ScriptNil'. -/
def scriptNilUptoCard : Claim7 := { stood := { row := scriptNilUptoRow, standIns := [], harness := (true, "6c2f0bc0e881af32b8ee2fe9d8e380be5acdcf21fdd28a1a105b5f749536e71c"), looks := true }, kinds := [], alts := [], laidByText := true, laidKinds := [.data, .data, .data, .data, .sentinel, .sentinel, .data, .pinned], laidTests := true, laidLooks := .later }
def ScriptNilUptoCardSaid : Prop := Claim7.holds Tryz.pinned (.plain (OpenSpec.upto scriptNilSpec)) scriptNilUptoCard
end Rows
end Go.Proofs.YtbjpoelgcehidaaGreatDoor
