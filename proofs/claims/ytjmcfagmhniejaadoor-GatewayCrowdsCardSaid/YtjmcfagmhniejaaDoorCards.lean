/-
  DERIVED. GIVEN WITH THE SEED: THE CARDS: each row of YtjmcfagmhniejaaDoorRows.lean that lists a variable, with what it lists TIED to the program's text (the seventh form; the later family's looks); each row that meets fmt, with fmt's text TOLD by the authors' own Lean function (tested against real Go, not proved from fmt's source: count such statements apart). THE CARD IS WHAT COUNTS. Prove the row's statement (the work); the ties are given (YtjmcfagmhniejaaDoorTie.lean); close each card by the builder's one call (the guide's Derived/Test/ToyasCard.lean, 'card_holds'). Laid BY PROGRAM, IN A SANDBOX (cutbox-door.mjs). By AI agents, Wed Nov 11 2026. No macro, syntax, notation, axiom, sorry.
-/
import Derived.Test.YtjmcfagmhniejaaDoorRows
import GoSem.ClaimSeven
namespace Go.Proofs.YtjmcfagmhniejaaDoor
namespace Rows

/-- THE TIED CARD OF 'bulletinlaw51.GatewayNicks'. -/
def gatewayNicksCard : Claim7 := { stood := { row := gatewayNicksRow, standIns := [], harness := (true, "02213514ea54252a20d33a9f8c66802cdfe47a667dde0510867551d8cdc10b28"), looks := false }, kinds := [], alts := [], laidByText := true, laidKinds := [.data, .data, .data, .data, .pinned], laidTests := true, laidLooks := .later }
def GatewayNicksCardSaid : Prop := Claim7.holds Tryd.pinned (.plain (OpenSpec.ofChange gatewayNicksSpec)) gatewayNicksCard

/-- THE TIED CARD OF 'bulletinlaw51.GatewayCrowds'. -/
def gatewayCrowdsCard : Claim7 := { stood := { row := gatewayCrowdsRow, standIns := [], harness := (true, "02213514ea54252a20d33a9f8c66802cdfe47a667dde0510867551d8cdc10b28"), looks := false }, kinds := [], alts := [], laidByText := true, laidKinds := [.data, .data, .data, .data, .pinned], laidTests := true, laidLooks := .later }
def GatewayCrowdsCardSaid : Prop := Claim7.holds Tryd.pinned (.plain (OpenSpec.ofChange gatewayCrowdsSpec)) gatewayCrowdsCard

/-- THE TIED CARD OF 'bulletinlaw51.GatewayNew'. -/
def gatewayNewCard : Claim7 := { stood := { row := gatewayNewRow, standIns := [], harness := (true, "02213514ea54252a20d33a9f8c66802cdfe47a667dde0510867551d8cdc10b28"), looks := false }, kinds := [], alts := [], laidByText := true, laidKinds := [.data, .data, .data, .data, .pinned], laidTests := true, laidLooks := .later }
def GatewayNewCardSaid : Prop := Claim7.holds Tryd.pinned (.plain (OpenSpec.ofChange gatewayNewSpec)) gatewayNewCard

/-- THE SECOND FORM's CARD OF 'bulletinlaw51.GatewayNicks'. -/
def gatewayNicksUptoCard : Claim7 := { stood := { row := gatewayNicksUptoRow, standIns := [], harness := (true, "02213514ea54252a20d33a9f8c66802cdfe47a667dde0510867551d8cdc10b28"), looks := false }, kinds := [], alts := [], laidByText := true, laidKinds := [.data, .data, .data, .data, .pinned], laidTests := true, laidLooks := .later }
def GatewayNicksUptoCardSaid : Prop := Claim7.holds Tryd.pinned (.plain (OpenSpec.upto gatewayNicksSpec)) gatewayNicksUptoCard

/-- THE SECOND FORM's CARD OF 'bulletinlaw51.GatewayCrowds'. -/
def gatewayCrowdsUptoCard : Claim7 := { stood := { row := gatewayCrowdsUptoRow, standIns := [], harness := (true, "02213514ea54252a20d33a9f8c66802cdfe47a667dde0510867551d8cdc10b28"), looks := false }, kinds := [], alts := [], laidByText := true, laidKinds := [.data, .data, .data, .data, .pinned], laidTests := true, laidLooks := .later }
def GatewayCrowdsUptoCardSaid : Prop := Claim7.holds Tryd.pinned (.plain (OpenSpec.upto gatewayCrowdsSpec)) gatewayCrowdsUptoCard

/-- THE SECOND FORM's CARD OF 'bulletinlaw51.GatewayNew'. -/
def gatewayNewUptoCard : Claim7 := { stood := { row := gatewayNewUptoRow, standIns := [], harness := (true, "02213514ea54252a20d33a9f8c66802cdfe47a667dde0510867551d8cdc10b28"), looks := false }, kinds := [], alts := [], laidByText := true, laidKinds := [.data, .data, .data, .data, .pinned], laidTests := true, laidLooks := .later }
def GatewayNewUptoCardSaid : Prop := Claim7.holds Tryd.pinned (.plain (OpenSpec.upto gatewayNewSpec)) gatewayNewUptoCard
end Rows
end Go.Proofs.YtjmcfagmhniejaaDoor
