/-
  DERIVED. GIVEN WITH THE SEED: THE CARDS: each row of YtannhfnpigiggaaGreatDoorRows.lean that lists a variable, with what it lists TIED to the program's text (the seventh form; the later family's looks); each row that meets fmt, with fmt's text TOLD by the authors' own Lean function (tested against real Go, not proved from fmt's source: count such statements apart). THE CARD IS WHAT COUNTS. Prove the row's statement (the work); the ties are given (YtannhfnpigiggaaGreatDoorTie.lean); close each card by the builder's one call (the guide's Derived/Test/ToyasCard.lean, 'card_holds'). Laid BY PROGRAM, IN A SANDBOX (cutbox-door.mjs). By AI agents, Wed Nov 11 2026. No macro, syntax, notation, axiom, sorry.
-/
import Derived.Test.YtannhfnpigiggaaGreatDoorRows
import GoSem.ClaimSeven
namespace Go.Proofs.YtannhfnpigiggaaGreatDoor
namespace Rows

/-- THE TIED CARD OF 'bulletinlaw47.ScoreCase'. -/
def scoreCaseCard : Claim7 := { stood := { row := scoreCaseRow, standIns := [], harness := (true, "653d9457284f86dd21bcd476d3fc82d5a47859bec071af82516c82004a4d2048"), looks := true }, kinds := [], alts := [], laidByText := true, laidKinds := [.data, .data, .data, .data, .pinned], laidTests := true, laidLooks := .later }
def ScoreCaseCardSaid : Prop := Claim7.holds Tryz.pinned (.plain (OpenSpec.ofChange scoreCaseSpec)) scoreCaseCard

/-- THE TIED CARD OF 'bulletinlaw47.ScorePrints'. -/
def scorePrintsCard : Claim7 := { stood := { row := scorePrintsRow, standIns := [], harness := (true, "653d9457284f86dd21bcd476d3fc82d5a47859bec071af82516c82004a4d2048"), looks := true }, kinds := [], alts := [], laidByText := true, laidKinds := [.data, .data, .data, .data, .pinned], laidTests := true, laidLooks := .later }
def ScorePrintsCardSaid : Prop := Claim7.holds Tryz.pinned (.plain (OpenSpec.ofChange scorePrintsSpec)) scorePrintsCard

/-- THE TIED CARD OF 'bulletinlaw47.ScoreNot'. -/
def scoreNotCard : Claim7 := { stood := { row := scoreNotRow, standIns := [], harness := (true, "653d9457284f86dd21bcd476d3fc82d5a47859bec071af82516c82004a4d2048"), looks := true }, kinds := [], alts := [], laidByText := true, laidKinds := [.data, .data, .data, .data, .pinned], laidTests := true, laidLooks := .later }
def ScoreNotCardSaid : Prop := Claim7.holds Tryz.pinned (.plain (OpenSpec.ofChange scoreNotSpec)) scoreNotCard

/-- THE TIED CARD OF 'bulletinlaw47.ScoreLimits'. -/
def scoreLimitsCard : Claim7 := { stood := { row := scoreLimitsRow, standIns := [], harness := (true, "653d9457284f86dd21bcd476d3fc82d5a47859bec071af82516c82004a4d2048"), looks := true }, kinds := [], alts := [], laidByText := true, laidKinds := [.data, .data, .data, .data, .pinned], laidTests := true, laidLooks := .later }
def ScoreLimitsCardSaid : Prop := Claim7.holds Tryz.pinned (.plain (OpenSpec.ofChange scoreLimitsSpec)) scoreLimitsCard

/-- THE TIED CARD OF 'bulletinlaw47.ScoreRates'. -/
def scoreRatesCard : Claim7 := { stood := { row := scoreRatesRow, standIns := [], harness := (true, "653d9457284f86dd21bcd476d3fc82d5a47859bec071af82516c82004a4d2048"), looks := true }, kinds := [], alts := [], laidByText := true, laidKinds := [.data, .data, .data, .data, .pinned], laidTests := true, laidLooks := .later }
def ScoreRatesCardSaid : Prop := Claim7.holds Tryz.pinned (.plain (OpenSpec.ofChange scoreRatesSpec)) scoreRatesCard

/-- THE TIED CARD OF 'bulletinlaw47.ScoreAppends'. -/
def scoreAppendsCard : Claim7 := { stood := { row := scoreAppendsRow, standIns := [], harness := (true, "653d9457284f86dd21bcd476d3fc82d5a47859bec071af82516c82004a4d2048"), looks := true }, kinds := [], alts := [], laidByText := true, laidKinds := [.data, .data, .data, .data, .pinned], laidTests := true, laidLooks := .later }
def ScoreAppendsCardSaid : Prop := Claim7.holds Tryz.pinned (.plain (OpenSpec.ofChange scoreAppendsSpec)) scoreAppendsCard

/-- THE TIED CARD OF 'bulletinlaw47.ScoreNil'. -/
def scoreNilCard : Claim7 := { stood := { row := scoreNilRow, standIns := [], harness := (true, "653d9457284f86dd21bcd476d3fc82d5a47859bec071af82516c82004a4d2048"), looks := true }, kinds := [], alts := [], laidByText := true, laidKinds := [.data, .data, .data, .data, .pinned], laidTests := true, laidLooks := .later }
def ScoreNilCardSaid : Prop := Claim7.holds Tryz.pinned (.plain (OpenSpec.ofChange scoreNilSpec)) scoreNilCard

/-- THE TIED CARD OF 'bulletinlaw47.ScoreOrders'. -/
def scoreOrdersCard : Claim7 := { stood := { row := scoreOrdersRow, standIns := [], harness := (true, "653d9457284f86dd21bcd476d3fc82d5a47859bec071af82516c82004a4d2048"), looks := true }, kinds := [], alts := [], laidByText := true, laidKinds := [.data, .data, .data, .data, .pinned], laidTests := true, laidLooks := .later }
def ScoreOrdersCardSaid : Prop := Claim7.holds Tryz.pinned (.plain (OpenSpec.ofChange scoreOrdersSpec)) scoreOrdersCard

/-- THE SECOND FORM's CARD OF 'bulletinlaw47.ScoreCase'. -/
def scoreCaseUptoCard : Claim7 := { stood := { row := scoreCaseUptoRow, standIns := [], harness := (true, "653d9457284f86dd21bcd476d3fc82d5a47859bec071af82516c82004a4d2048"), looks := true }, kinds := [], alts := [], laidByText := true, laidKinds := [.data, .data, .data, .data, .pinned], laidTests := true, laidLooks := .later }
def ScoreCaseUptoCardSaid : Prop := Claim7.holds Tryz.pinned (.plain (OpenSpec.upto scoreCaseSpec)) scoreCaseUptoCard

/-- THE SECOND FORM's CARD OF 'bulletinlaw47.ScorePrints'. -/
def scorePrintsUptoCard : Claim7 := { stood := { row := scorePrintsUptoRow, standIns := [], harness := (true, "653d9457284f86dd21bcd476d3fc82d5a47859bec071af82516c82004a4d2048"), looks := true }, kinds := [], alts := [], laidByText := true, laidKinds := [.data, .data, .data, .data, .pinned], laidTests := true, laidLooks := .later }
def ScorePrintsUptoCardSaid : Prop := Claim7.holds Tryz.pinned (.plain (OpenSpec.upto scorePrintsSpec)) scorePrintsUptoCard

/-- THE SECOND FORM's CARD OF 'bulletinlaw47.ScoreNot'. -/
def scoreNotUptoCard : Claim7 := { stood := { row := scoreNotUptoRow, standIns := [], harness := (true, "653d9457284f86dd21bcd476d3fc82d5a47859bec071af82516c82004a4d2048"), looks := true }, kinds := [], alts := [], laidByText := true, laidKinds := [.data, .data, .data, .data, .pinned], laidTests := true, laidLooks := .later }
def ScoreNotUptoCardSaid : Prop := Claim7.holds Tryz.pinned (.plain (OpenSpec.upto scoreNotSpec)) scoreNotUptoCard

/-- THE SECOND FORM's CARD OF 'bulletinlaw47.ScoreLimits'. -/
def scoreLimitsUptoCard : Claim7 := { stood := { row := scoreLimitsUptoRow, standIns := [], harness := (true, "653d9457284f86dd21bcd476d3fc82d5a47859bec071af82516c82004a4d2048"), looks := true }, kinds := [], alts := [], laidByText := true, laidKinds := [.data, .data, .data, .data, .pinned], laidTests := true, laidLooks := .later }
def ScoreLimitsUptoCardSaid : Prop := Claim7.holds Tryz.pinned (.plain (OpenSpec.upto scoreLimitsSpec)) scoreLimitsUptoCard

/-- THE SECOND FORM's CARD OF 'bulletinlaw47.ScoreRates'. -/
def scoreRatesUptoCard : Claim7 := { stood := { row := scoreRatesUptoRow, standIns := [], harness := (true, "653d9457284f86dd21bcd476d3fc82d5a47859bec071af82516c82004a4d2048"), looks := true }, kinds := [], alts := [], laidByText := true, laidKinds := [.data, .data, .data, .data, .pinned], laidTests := true, laidLooks := .later }
def ScoreRatesUptoCardSaid : Prop := Claim7.holds Tryz.pinned (.plain (OpenSpec.upto scoreRatesSpec)) scoreRatesUptoCard

/-- THE SECOND FORM's CARD OF 'bulletinlaw47.ScoreAppends'. -/
def scoreAppendsUptoCard : Claim7 := { stood := { row := scoreAppendsUptoRow, standIns := [], harness := (true, "653d9457284f86dd21bcd476d3fc82d5a47859bec071af82516c82004a4d2048"), looks := true }, kinds := [], alts := [], laidByText := true, laidKinds := [.data, .data, .data, .data, .pinned], laidTests := true, laidLooks := .later }
def ScoreAppendsUptoCardSaid : Prop := Claim7.holds Tryz.pinned (.plain (OpenSpec.upto scoreAppendsSpec)) scoreAppendsUptoCard

/-- THE SECOND FORM's CARD OF 'bulletinlaw47.ScoreNil'. -/
def scoreNilUptoCard : Claim7 := { stood := { row := scoreNilUptoRow, standIns := [], harness := (true, "653d9457284f86dd21bcd476d3fc82d5a47859bec071af82516c82004a4d2048"), looks := true }, kinds := [], alts := [], laidByText := true, laidKinds := [.data, .data, .data, .data, .pinned], laidTests := true, laidLooks := .later }
def ScoreNilUptoCardSaid : Prop := Claim7.holds Tryz.pinned (.plain (OpenSpec.upto scoreNilSpec)) scoreNilUptoCard

/-- THE SECOND FORM's CARD OF 'bulletinlaw47.ScoreOrders'. -/
def scoreOrdersUptoCard : Claim7 := { stood := { row := scoreOrdersUptoRow, standIns := [], harness := (true, "653d9457284f86dd21bcd476d3fc82d5a47859bec071af82516c82004a4d2048"), looks := true }, kinds := [], alts := [], laidByText := true, laidKinds := [.data, .data, .data, .data, .pinned], laidTests := true, laidLooks := .later }
def ScoreOrdersUptoCardSaid : Prop := Claim7.holds Tryz.pinned (.plain (OpenSpec.upto scoreOrdersSpec)) scoreOrdersUptoCard
end Rows
end Go.Proofs.YtannhfnpigiggaaGreatDoor
