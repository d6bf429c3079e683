/-
  DERIVED. GIVEN WITH THE SEED: THE CARDS: each row of YtdebiolekbldiaaGreatDoorRows.lean that lists a variable, with what it lists TIED to the program's text (the seventh form; the later family's looks); each row that meets fmt, with fmt's text TOLD by the authors' own Lean function (tested against real Go, not proved from fmt's source: count such statements apart). THE CARD IS WHAT COUNTS. Prove the row's statement (the work); the ties are given (YtdebiolekbldiaaGreatDoorTie.lean); close each card by the builder's one call (the guide's Derived/Test/ToyasCard.lean, 'card_holds'). Laid BY PROGRAM, IN A SANDBOX (cutbox-door.mjs). By AI agents, Wed Nov 11 2026. No macro, syntax, notation, axiom, sorry.
-/
import Derived.Test.YtdebiolekbldiaaGreatDoorRows
import GoSem.ClaimSeven
namespace Go.Proofs.YtdebiolekbldiaaGreatDoor
namespace Rows

/-- THE TIED CARD OF 'permafrostlaw18.StoreBack'. -/
def storeBackCard : Claim7 := { stood := { row := storeBackRow, standIns := [], harness := (true, "24b9de7e1d2dbe7c6c5676c073141808139595dff33e2bf3a16a924e40467dcd"), looks := false }, kinds := [], alts := [], laidByText := true, laidKinds := [.data], laidTests := true, laidLooks := .later }
def StoreBackCardSaid : Prop := Claim7.holds Tryz.pinned (.plain (OpenSpec.ofChange storeBackSpec)) storeBackCard

/-- THE TIED CARD OF 'permafrostlaw18.StoreRoom'. -/
def storeRoomCard : Claim7 := { stood := { row := storeRoomRow, standIns := [], harness := (true, "24b9de7e1d2dbe7c6c5676c073141808139595dff33e2bf3a16a924e40467dcd"), looks := false }, kinds := [], alts := [], laidByText := true, laidKinds := [.data], laidTests := true, laidLooks := .later }
def StoreRoomCardSaid : Prop := Claim7.holds Tryz.pinned (.plain (OpenSpec.ofChange storeRoomSpec)) storeRoomCard

/-- THE TIED CARD OF 'permafrostlaw18.StoreCaches'. -/
def storeCachesCard : Claim7 := { stood := { row := storeCachesRow, standIns := [], harness := (true, "24b9de7e1d2dbe7c6c5676c073141808139595dff33e2bf3a16a924e40467dcd"), looks := false }, kinds := [], alts := [], laidByText := true, laidKinds := [.data], laidTests := true, laidLooks := .later }
def StoreCachesCardSaid : Prop := Claim7.holds Tryz.pinned (.plain (OpenSpec.ofChange storeCachesSpec)) storeCachesCard

/-- THE TIED CARD OF 'permafrostlaw18.StoreSettle'. -/
def storeSettleCard : Claim7 := { stood := { row := storeSettleRow, standIns := [], harness := (true, "24b9de7e1d2dbe7c6c5676c073141808139595dff33e2bf3a16a924e40467dcd"), looks := false }, kinds := [], alts := [], laidByText := true, laidKinds := [.data], laidTests := true, laidLooks := .later }
def StoreSettleCardSaid : Prop := Claim7.holds Tryz.pinned (.plain (OpenSpec.ofChange storeSettleSpec)) storeSettleCard

/-- THE TIED CARD OF 'permafrostlaw18.StoreTrue'. -/
def storeTrueCard : Claim7 := { stood := { row := storeTrueRow, standIns := [], harness := (true, "24b9de7e1d2dbe7c6c5676c073141808139595dff33e2bf3a16a924e40467dcd"), looks := false }, kinds := [], alts := [], laidByText := true, laidKinds := [.data], laidTests := true, laidLooks := .later }
def StoreTrueCardSaid : Prop := Claim7.holds Tryz.pinned (.plain (OpenSpec.ofChange storeTrueSpec)) storeTrueCard

/-- THE SECOND FORM's CARD OF 'permafrostlaw18.StoreBack'. -/
def storeBackUptoCard : Claim7 := { stood := { row := storeBackUptoRow, standIns := [], harness := (true, "24b9de7e1d2dbe7c6c5676c073141808139595dff33e2bf3a16a924e40467dcd"), looks := false }, kinds := [], alts := [], laidByText := true, laidKinds := [.data], laidTests := true, laidLooks := .later }
def StoreBackUptoCardSaid : Prop := Claim7.holds Tryz.pinned (.plain (OpenSpec.upto storeBackSpec)) storeBackUptoCard

/-- THE SECOND FORM's CARD OF 'permafrostlaw18.StoreRoom'. -/
def storeRoomUptoCard : Claim7 := { stood := { row := storeRoomUptoRow, standIns := [], harness := (true, "24b9de7e1d2dbe7c6c5676c073141808139595dff33e2bf3a16a924e40467dcd"), looks := false }, kinds := [], alts := [], laidByText := true, laidKinds := [.data], laidTests := true, laidLooks := .later }
def StoreRoomUptoCardSaid : Prop := Claim7.holds Tryz.pinned (.plain (OpenSpec.upto storeRoomSpec)) storeRoomUptoCard

/-- THE SECOND FORM's CARD OF 'permafrostlaw18.StoreCaches'. -/
def storeCachesUptoCard : Claim7 := { stood := { row := storeCachesUptoRow, standIns := [], harness := (true, "24b9de7e1d2dbe7c6c5676c073141808139595dff33e2bf3a16a924e40467dcd"), looks := false }, kinds := [], alts := [], laidByText := true, laidKinds := [.data], laidTests := true, laidLooks := .later }
def StoreCachesUptoCardSaid : Prop := Claim7.holds Tryz.pinned (.plain (OpenSpec.upto storeCachesSpec)) storeCachesUptoCard

/-- THE SECOND FORM's CARD OF 'permafrostlaw18.StoreSettle'. -/
def storeSettleUptoCard : Claim7 := { stood := { row := storeSettleUptoRow, standIns := [], harness := (true, "24b9de7e1d2dbe7c6c5676c073141808139595dff33e2bf3a16a924e40467dcd"), looks := false }, kinds := [], alts := [], laidByText := true, laidKinds := [.data], laidTests := true, laidLooks := .later }
def StoreSettleUptoCardSaid : Prop := Claim7.holds Tryz.pinned (.plain (OpenSpec.upto storeSettleSpec)) storeSettleUptoCard

/-- THE SECOND FORM's CARD OF 'permafrostlaw18.StoreTrue'. -/
def storeTrueUptoCard : Claim7 := { stood := { row := storeTrueUptoRow, standIns := [], harness := (true, "24b9de7e1d2dbe7c6c5676c073141808139595dff33e2bf3a16a924e40467dcd"), looks := false }, kinds := [], alts := [], laidByText := true, laidKinds := [.data], laidTests := true, laidLooks := .later }
def StoreTrueUptoCardSaid : Prop := Claim7.holds Tryz.pinned (.plain (OpenSpec.upto storeTrueSpec)) storeTrueUptoCard
end Rows
end Go.Proofs.YtdebiolekbldiaaGreatDoor
