/-
  DERIVED. GIVEN WITH THE SEED: THE CARDS: each row of YtcknomaaikeebaaDoorRows.lean that lists a variable, with what it lists TIED to the program's text (the seventh form; the later family's looks); each row that meets fmt, with fmt's text TOLD by the authors' own Lean function (tested against real Go, not proved from fmt's source: count such statements apart). THE CARD IS WHAT COUNTS. Prove the row's statement (the work); the ties are given (YtcknomaaikeebaaDoorTie.lean); close each card by the builder's one call (the guide's Derived/Test/ToyasCard.lean, 'card_holds'). Laid BY PROGRAM, IN A SANDBOX (cutbox-door.mjs). By AI agents, Wed Nov 11 2026. No macro, syntax, notation, axiom, sorry.
-/
import Derived.Test.YtcknomaaikeebaaDoorRows
import GoSem.ClaimSeven
namespace Go.Proofs.YtcknomaaikeebaaDoor
namespace Rows

/-- THE TIED CARD OF 'bulletinlaw13.WildmatCommon'. -/
def wildmatCommonCard : Claim7 := { stood := { row := wildmatCommonRow, standIns := [], harness := (true, "16a606dc54b3482582db50dc8d62823fd8b26d019b6a2b3b3992988a21cb3139"), looks := true }, kinds := [], alts := [], laidByText := true, laidKinds := [.data, .pinned], laidTests := true, laidLooks := .later }
def WildmatCommonCardSaid : Prop := Claim7.holds Tryd.pinned (.plain (OpenSpec.ofChange wildmatCommonSpec)) wildmatCommonCard

/-- THE SECOND FORM's CARD OF 'bulletinlaw13.WildmatCommon'. -/
def wildmatCommonUptoCard : Claim7 := { stood := { row := wildmatCommonUptoRow, standIns := [], harness := (true, "16a606dc54b3482582db50dc8d62823fd8b26d019b6a2b3b3992988a21cb3139"), looks := true }, kinds := [], alts := [], laidByText := true, laidKinds := [.data, .pinned], laidTests := true, laidLooks := .later }
def WildmatCommonUptoCardSaid : Prop := Claim7.holds Tryd.pinned (.plain (OpenSpec.upto wildmatCommonSpec)) wildmatCommonUptoCard
end Rows
end Go.Proofs.YtcknomaaikeebaaDoor
