/-
  DERIVED. GIVEN WITH THE SEED: THE CARDS: each row of YtjmcfagmhniejaaGreatDoorRows.lean that lists a variable, with what it lists TIED to the program's text (the seventh form; the later family's looks); each row that meets fmt, with fmt's text TOLD by the authors' own Lean function (tested against real Go, not proved from fmt's source: count such statements apart). THE CARD IS WHAT COUNTS. Prove the row's statement (the work); the ties are given (YtjmcfagmhniejaaGreatDoorTie.lean); close each card by the builder's one call (the guide's Derived/Test/ToyasCard.lean, 'card_holds'). Laid BY PROGRAM, IN A SANDBOX (cutbox-door.mjs). By AI agents, Wed Nov 11 2026. No macro, syntax, notation, axiom, sorry.
-/
import Derived.Test.YtjmcfagmhniejaaGreatDoorRows
import GoSem.ClaimSeven
namespace Go.Proofs.YtjmcfagmhniejaaGreatDoor
namespace Rows

/-- THE TIED CARD OF 'bulletinlaw51.GatewayLines'. -/
def gatewayLinesCard : Claim7 := { stood := { row := gatewayLinesRow, standIns := [], harness := (true, "85ae510bc820a34563f6deb6f38c65dae239cfea84f6218858c3fb1590b0e6ab"), looks := false }, kinds := [], alts := [], laidByText := true, laidKinds := [.data, .data, .data, .data, .pinned], laidTests := true, laidLooks := .later }
def GatewayLinesCardSaid : Prop := Claim7.holds Tryz.pinned (.plain (OpenSpec.ofChange gatewayLinesSpec)) gatewayLinesCard

/-- THE TIED CARD OF 'bulletinlaw51.GatewayParses'. -/
def gatewayParsesCard : Claim7 := { stood := { row := gatewayParsesRow, standIns := [], harness := (true, "85ae510bc820a34563f6deb6f38c65dae239cfea84f6218858c3fb1590b0e6ab"), looks := false }, kinds := [], alts := [], laidByText := true, laidKinds := [.data, .data, .data, .data, .pinned], laidTests := true, laidLooks := .later }
def GatewayParsesCardSaid : Prop := Claim7.holds Tryz.pinned (.plain (OpenSpec.ofChange gatewayParsesSpec)) gatewayParsesCard

/-- THE TIED CARD OF 'bulletinlaw51.GatewayBodies'. -/
def gatewayBodiesCard : Claim7 := { stood := { row := gatewayBodiesRow, standIns := [], harness := (true, "85ae510bc820a34563f6deb6f38c65dae239cfea84f6218858c3fb1590b0e6ab"), looks := false }, kinds := [], alts := [], laidByText := true, laidKinds := [.data, .data, .data, .data, .pinned], laidTests := true, laidLooks := .later }
def GatewayBodiesCardSaid : Prop := Claim7.holds Tryz.pinned (.plain (OpenSpec.ofChange gatewayBodiesSpec)) gatewayBodiesCard

/-- THE SECOND FORM's CARD OF 'bulletinlaw51.GatewayLines'. -/
def gatewayLinesUptoCard : Claim7 := { stood := { row := gatewayLinesUptoRow, standIns := [], harness := (true, "85ae510bc820a34563f6deb6f38c65dae239cfea84f6218858c3fb1590b0e6ab"), looks := false }, kinds := [], alts := [], laidByText := true, laidKinds := [.data, .data, .data, .data, .pinned], laidTests := true, laidLooks := .later }
def GatewayLinesUptoCardSaid : Prop := Claim7.holds Tryz.pinned (.plain (OpenSpec.upto gatewayLinesSpec)) gatewayLinesUptoCard

/-- THE SECOND FORM's CARD OF 'bulletinlaw51.GatewayParses'. -/
def gatewayParsesUptoCard : Claim7 := { stood := { row := gatewayParsesUptoRow, standIns := [], harness := (true, "85ae510bc820a34563f6deb6f38c65dae239cfea84f6218858c3fb1590b0e6ab"), looks := false }, kinds := [], alts := [], laidByText := true, laidKinds := [.data, .data, .data, .data, .pinned], laidTests := true, laidLooks := .later }
def GatewayParsesUptoCardSaid : Prop := Claim7.holds Tryz.pinned (.plain (OpenSpec.upto gatewayParsesSpec)) gatewayParsesUptoCard

/-- THE SECOND FORM's CARD OF 'bulletinlaw51.GatewayBodies'. -/
def gatewayBodiesUptoCard : Claim7 := { stood := { row := gatewayBodiesUptoRow, standIns := [], harness := (true, "85ae510bc820a34563f6deb6f38c65dae239cfea84f6218858c3fb1590b0e6ab"), looks := false }, kinds := [], alts := [], laidByText := true, laidKinds := [.data, .data, .data, .data, .pinned], laidTests := true, laidLooks := .later }
def GatewayBodiesUptoCardSaid : Prop := Claim7.holds Tryz.pinned (.plain (OpenSpec.upto gatewayBodiesSpec)) gatewayBodiesUptoCard
end Rows
end Go.Proofs.YtjmcfagmhniejaaGreatDoor
