/-
  DERIVED. GIVEN WITH THE SEED: THE CARDS: each row of YthdgjjggndfbhaaDoorRows.lean that lists a variable, with what it lists TIED to the program's text (the seventh form; the later family's looks); each row that meets fmt, with fmt's text TOLD by the authors' own Lean function (tested against real Go, not proved from fmt's source: count such statements apart). THE CARD IS WHAT COUNTS. Prove the row's statement (the work); the ties are given (YthdgjjggndfbhaaDoorTie.lean); close each card by the builder's one call (the guide's Derived/Test/ToyasCard.lean, 'card_holds'). Laid BY PROGRAM, IN A SANDBOX (cutbox-door.mjs). By AI agents, Wed Nov 11 2026. No macro, syntax, notation, axiom, sorry.
-/
import Derived.Test.YthdgjjggndfbhaaDoorRows
import GoSem.ClaimSeven
namespace Go.Proofs.YthdgjjggndfbhaaDoor
namespace Rows

/-- THE TIED CARD OF 'permafrostlaw13.ClogEncodes'. -/
def clogEncodesCard : Claim7 := { stood := { row := clogEncodesRow, standIns := [], harness := (true, "557326cc5cc7670a2e9b75203b21a184b91dd85e74273f6facabaaefdaf363d7"), looks := false }, kinds := [], alts := [], laidByText := true, laidKinds := [.data], laidTests := true, laidLooks := .later }
def ClogEncodesCardSaid : Prop := Claim7.holds Tryd.pinned (.plain (OpenSpec.ofChange clogEncodesSpec)) clogEncodesCard

/-- THE TIED CARD OF 'permafrostlaw13.ClogDecodes'. -/
def clogDecodesCard : Claim7 := { stood := { row := clogDecodesRow, standIns := [], harness := (true, "557326cc5cc7670a2e9b75203b21a184b91dd85e74273f6facabaaefdaf363d7"), looks := false }, kinds := [], alts := [], laidByText := true, laidKinds := [.data], laidTests := true, laidLooks := .later }
def ClogDecodesCardSaid : Prop := Claim7.holds Tryd.pinned (.plain (OpenSpec.ofChange clogDecodesSpec)) clogDecodesCard

/-- THE TIED CARD OF 'permafrostlaw13.ClogMerges'. -/
def clogMergesCard : Claim7 := { stood := { row := clogMergesRow, standIns := [], harness := (true, "557326cc5cc7670a2e9b75203b21a184b91dd85e74273f6facabaaefdaf363d7"), looks := false }, kinds := [], alts := [], laidByText := true, laidKinds := [.data], laidTests := true, laidLooks := .later }
def ClogMergesCardSaid : Prop := Claim7.holds Tryd.pinned (.plain (OpenSpec.ofChange clogMergesSpec)) clogMergesCard

/-- THE TIED CARD OF 'permafrostlaw13.ClogTail'. -/
def clogTailCard : Claim7 := { stood := { row := clogTailRow, standIns := [], harness := (true, "557326cc5cc7670a2e9b75203b21a184b91dd85e74273f6facabaaefdaf363d7"), looks := false }, kinds := [], alts := [], laidByText := true, laidKinds := [.data], laidTests := true, laidLooks := .later }
def ClogTailCardSaid : Prop := Claim7.holds Tryd.pinned (.plain (OpenSpec.ofChange clogTailSpec)) clogTailCard

/-- THE TIED CARD OF 'permafrostlaw13.ClogBack'. -/
def clogBackCard : Claim7 := { stood := { row := clogBackRow, standIns := [], harness := (true, "557326cc5cc7670a2e9b75203b21a184b91dd85e74273f6facabaaefdaf363d7"), looks := false }, kinds := [], alts := [], laidByText := true, laidKinds := [.data], laidTests := true, laidLooks := .later }
def ClogBackCardSaid : Prop := Claim7.holds Tryd.pinned (.plain (OpenSpec.ofChange clogBackSpec)) clogBackCard

/-- THE SECOND FORM's CARD OF 'permafrostlaw13.ClogEncodes'. -/
def clogEncodesUptoCard : Claim7 := { stood := { row := clogEncodesUptoRow, standIns := [], harness := (true, "557326cc5cc7670a2e9b75203b21a184b91dd85e74273f6facabaaefdaf363d7"), looks := false }, kinds := [], alts := [], laidByText := true, laidKinds := [.data], laidTests := true, laidLooks := .later }
def ClogEncodesUptoCardSaid : Prop := Claim7.holds Tryd.pinned (.plain (OpenSpec.upto clogEncodesSpec)) clogEncodesUptoCard

/-- THE SECOND FORM's CARD OF 'permafrostlaw13.ClogDecodes'. -/
def clogDecodesUptoCard : Claim7 := { stood := { row := clogDecodesUptoRow, standIns := [], harness := (true, "557326cc5cc7670a2e9b75203b21a184b91dd85e74273f6facabaaefdaf363d7"), looks := false }, kinds := [], alts := [], laidByText := true, laidKinds := [.data], laidTests := true, laidLooks := .later }
def ClogDecodesUptoCardSaid : Prop := Claim7.holds Tryd.pinned (.plain (OpenSpec.upto clogDecodesSpec)) clogDecodesUptoCard

/-- THE SECOND FORM's CARD OF 'permafrostlaw13.ClogMerges'. -/
def clogMergesUptoCard : Claim7 := { stood := { row := clogMergesUptoRow, standIns := [], harness := (true, "557326cc5cc7670a2e9b75203b21a184b91dd85e74273f6facabaaefdaf363d7"), looks := false }, kinds := [], alts := [], laidByText := true, laidKinds := [.data], laidTests := true, laidLooks := .later }
def ClogMergesUptoCardSaid : Prop := Claim7.holds Tryd.pinned (.plain (OpenSpec.upto clogMergesSpec)) clogMergesUptoCard

/-- THE SECOND FORM's CARD OF 'permafrostlaw13.ClogTail'. -/
def clogTailUptoCard : Claim7 := { stood := { row := clogTailUptoRow, standIns := [], harness := (true, "557326cc5cc7670a2e9b75203b21a184b91dd85e74273f6facabaaefdaf363d7"), looks := false }, kinds := [], alts := [], laidByText := true, laidKinds := [.data], laidTests := true, laidLooks := .later }
def ClogTailUptoCardSaid : Prop := Claim7.holds Tryd.pinned (.plain (OpenSpec.upto clogTailSpec)) clogTailUptoCard

/-- THE SECOND FORM's CARD OF 'permafrostlaw13.ClogBack'. -/
def clogBackUptoCard : Claim7 := { stood := { row := clogBackUptoRow, standIns := [], harness := (true, "557326cc5cc7670a2e9b75203b21a184b91dd85e74273f6facabaaefdaf363d7"), looks := false }, kinds := [], alts := [], laidByText := true, laidKinds := [.data], laidTests := true, laidLooks := .later }
def ClogBackUptoCardSaid : Prop := Claim7.holds Tryd.pinned (.plain (OpenSpec.upto clogBackSpec)) clogBackUptoCard
end Rows
end Go.Proofs.YthdgjjggndfbhaaDoor
