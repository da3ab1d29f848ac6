/-
  DERIVED. GIVEN WITH THE SEED: THE CARDS: each row of YtghjgbkhhoaebaaGreatDoorRows.lean that lists a variable, with what it lists TIED to the program's text (the seventh form; the later family's looks); each row that meets fmt, with fmt's text TOLD by the authors' own Lean function (tested against real Go, not proved from fmt's source: count such statements apart). THE CARD IS WHAT COUNTS. Prove the row's statement (the work); the ties are given (YtghjgbkhhoaebaaGreatDoorTie.lean); close each card by the builder's one call (the guide's Derived/Test/ToyasCard.lean, 'card_holds'). Laid BY PROGRAM, IN A SANDBOX (cutbox-door.mjs). By AI agents, Wed Nov 11 2026. No macro, syntax, notation, axiom, sorry.
-/
import Derived.Test.YtghjgbkhhoaebaaGreatDoorRows
import GoSem.ClaimSeven
namespace Go.Proofs.YtghjgbkhhoaebaaGreatDoor
namespace Rows

/-- THE TIED CARD OF 'bulletinlaw51.GatewayReads'. -/
def gatewayReadsCard : Claim7 := { stood := { row := gatewayReadsRow, standIns := [], harness := (true, "ab1e013826c3c154df067d42004216f3439e00dae3c50cbc45df511be26ddd94"), looks := true }, kinds := [], alts := [], laidByText := true, laidKinds := [.data, .data, .data, .data, .data, .pinned], laidTests := true, laidLooks := .later }
def GatewayReadsCardSaid : Prop := Claim7.holds Tryz.pinned (.plain (OpenSpec.ofChange gatewayReadsSpec)) gatewayReadsCard

/-- THE TIED CARD OF 'bulletinlaw51.GatewayOperations'. -/
def gatewayOperationsCard : Claim7 := { stood := { row := gatewayOperationsRow, standIns := [], harness := (true, "ab1e013826c3c154df067d42004216f3439e00dae3c50cbc45df511be26ddd94"), looks := true }, kinds := [], alts := [], laidByText := true, laidKinds := [.data, .data, .data, .data, .data, .pinned], laidTests := true, laidLooks := .later }
def GatewayOperationsCardSaid : Prop := Claim7.holds Tryz.pinned (.plain (OpenSpec.ofChange gatewayOperationsSpec)) gatewayOperationsCard

/-- THE TIED CARD OF 'bulletinlaw51.GatewayLoops'. -/
def gatewayLoopsCard : Claim7 := { stood := { row := gatewayLoopsRow, standIns := [], harness := (true, "ab1e013826c3c154df067d42004216f3439e00dae3c50cbc45df511be26ddd94"), looks := true }, kinds := [], alts := [], laidByText := true, laidKinds := [.data, .data, .data, .data, .data, .pinned], laidTests := true, laidLooks := .later }
def GatewayLoopsCardSaid : Prop := Claim7.holds Tryz.pinned (.plain (OpenSpec.ofChange gatewayLoopsSpec)) gatewayLoopsCard

/-- THE TIED CARD OF 'bulletinlaw51.GatewayQuiet'. -/
def gatewayQuietCard : Claim7 := { stood := { row := gatewayQuietRow, standIns := [], harness := (true, "ab1e013826c3c154df067d42004216f3439e00dae3c50cbc45df511be26ddd94"), looks := true }, kinds := [], alts := [], laidByText := true, laidKinds := [.data, .data, .data, .data, .data, .pinned], laidTests := true, laidLooks := .later }
def GatewayQuietCardSaid : Prop := Claim7.holds Tryz.pinned (.plain (OpenSpec.ofChange gatewayQuietSpec)) gatewayQuietCard

/-- THE TIED CARD OF 'bulletinlaw51.GatewayTransports'. -/
def gatewayTransportsCard : Claim7 := { stood := { row := gatewayTransportsRow, standIns := [], harness := (true, "ab1e013826c3c154df067d42004216f3439e00dae3c50cbc45df511be26ddd94"), looks := true }, kinds := [], alts := [], laidByText := true, laidKinds := [.data, .data, .data, .data, .data, .pinned], laidTests := true, laidLooks := .later }
def GatewayTransportsCardSaid : Prop := Claim7.holds Tryz.pinned (.plain (OpenSpec.ofChange gatewayTransportsSpec)) gatewayTransportsCard

/-- THE TIED CARD OF 'bulletinlaw51.GatewayNil'. -/
def gatewayNilCard : Claim7 := { stood := { row := gatewayNilRow, standIns := [], harness := (true, "ab1e013826c3c154df067d42004216f3439e00dae3c50cbc45df511be26ddd94"), looks := true }, kinds := [], alts := [], laidByText := true, laidKinds := [.data, .data, .data, .data, .data, .pinned], laidTests := true, laidLooks := .later }
def GatewayNilCardSaid : Prop := Claim7.holds Tryz.pinned (.plain (OpenSpec.ofChange gatewayNilSpec)) gatewayNilCard

/-- THE SECOND FORM's CARD OF 'bulletinlaw51.GatewayReads'. -/
def gatewayReadsUptoCard : Claim7 := { stood := { row := gatewayReadsUptoRow, standIns := [], harness := (true, "ab1e013826c3c154df067d42004216f3439e00dae3c50cbc45df511be26ddd94"), looks := true }, kinds := [], alts := [], laidByText := true, laidKinds := [.data, .data, .data, .data, .data, .pinned], laidTests := true, laidLooks := .later }
def GatewayReadsUptoCardSaid : Prop := Claim7.holds Tryz.pinned (.plain (OpenSpec.upto gatewayReadsSpec)) gatewayReadsUptoCard

/-- THE SECOND FORM's CARD OF 'bulletinlaw51.GatewayOperations'. -/
def gatewayOperationsUptoCard : Claim7 := { stood := { row := gatewayOperationsUptoRow, standIns := [], harness := (true, "ab1e013826c3c154df067d42004216f3439e00dae3c50cbc45df511be26ddd94"), looks := true }, kinds := [], alts := [], laidByText := true, laidKinds := [.data, .data, .data, .data, .data, .pinned], laidTests := true, laidLooks := .later }
def GatewayOperationsUptoCardSaid : Prop := Claim7.holds Tryz.pinned (.plain (OpenSpec.upto gatewayOperationsSpec)) gatewayOperationsUptoCard

/-- THE SECOND FORM's CARD OF 'bulletinlaw51.GatewayLoops'. -/
def gatewayLoopsUptoCard : Claim7 := { stood := { row := gatewayLoopsUptoRow, standIns := [], harness := (true, "ab1e013826c3c154df067d42004216f3439e00dae3c50cbc45df511be26ddd94"), looks := true }, kinds := [], alts := [], laidByText := true, laidKinds := [.data, .data, .data, .data, .data, .pinned], laidTests := true, laidLooks := .later }
def GatewayLoopsUptoCardSaid : Prop := Claim7.holds Tryz.pinned (.plain (OpenSpec.upto gatewayLoopsSpec)) gatewayLoopsUptoCard

/-- THE SECOND FORM's CARD OF 'bulletinlaw51.GatewayQuiet'. -/
def gatewayQuietUptoCard : Claim7 := { stood := { row := gatewayQuietUptoRow, standIns := [], harness := (true, "ab1e013826c3c154df067d42004216f3439e00dae3c50cbc45df511be26ddd94"), looks := true }, kinds := [], alts := [], laidByText := true, laidKinds := [.data, .data, .data, .data, .data, .pinned], laidTests := true, laidLooks := .later }
def GatewayQuietUptoCardSaid : Prop := Claim7.holds Tryz.pinned (.plain (OpenSpec.upto gatewayQuietSpec)) gatewayQuietUptoCard

/-- THE SECOND FORM's CARD OF 'bulletinlaw51.GatewayTransports'. -/
def gatewayTransportsUptoCard : Claim7 := { stood := { row := gatewayTransportsUptoRow, standIns := [], harness := (true, "ab1e013826c3c154df067d42004216f3439e00dae3c50cbc45df511be26ddd94"), looks := true }, kinds := [], alts := [], laidByText := true, laidKinds := [.data, .data, .data, .data, .data, .pinned], laidTests := true, laidLooks := .later }
def GatewayTransportsUptoCardSaid : Prop := Claim7.holds Tryz.pinned (.plain (OpenSpec.upto gatewayTransportsSpec)) gatewayTransportsUptoCard

/-- THE SECOND FORM's CARD OF 'bulletinlaw51.GatewayNil'. -/
def gatewayNilUptoCard : Claim7 := { stood := { row := gatewayNilUptoRow, standIns := [], harness := (true, "ab1e013826c3c154df067d42004216f3439e00dae3c50cbc45df511be26ddd94"), looks := true }, kinds := [], alts := [], laidByText := true, laidKinds := [.data, .data, .data, .data, .data, .pinned], laidTests := true, laidLooks := .later }
def GatewayNilUptoCardSaid : Prop := Claim7.holds Tryz.pinned (.plain (OpenSpec.upto gatewayNilSpec)) gatewayNilUptoCard
end Rows
end Go.Proofs.YtghjgbkhhoaebaaGreatDoor
