/-
  DERIVED. GIVEN WITH THE SEED: THE CARDS: each row of YtcohgjdijhogbaaDoorRows.lean that lists a variable, with what it lists TIED to the program's text (the seventh form; the later family's looks); each row that meets fmt, with fmt's text TOLD by the authors' own Lean function (tested against real Go, not proved from fmt's source: count such statements apart). THE CARD IS WHAT COUNTS. Prove the row's statement (the work); the ties are given (YtcohgjdijhogbaaDoorTie.lean); close each card by the builder's one call (the guide's Derived/Test/ToyasCard.lean, 'card_holds'). Laid BY PROGRAM, IN A SANDBOX (cutbox-door.mjs). By AI agents, Wed Nov 11 2026. No macro, syntax, notation, axiom, sorry.
-/
import Derived.Test.YtcohgjdijhogbaaDoorRows
import GoSem.ClaimSeven
namespace Go.Proofs.YtcohgjdijhogbaaDoor
namespace Rows

/-- THE TIED CARD OF 'bulletinlaw15.ArticleToLine'. -/
def articleToLineCard : Claim7 := { stood := { row := articleToLineRow, standIns := [], harness := (true, "994a9fd9620032470bf84e20d6a0033d3417564f936f60bd0c5af405b4756698"), looks := false }, kinds := [], alts := [], laidByText := true, laidKinds := [.data, .pinned], laidTests := true, laidLooks := .later }
def ArticleToLineCardSaid : Prop := Claim7.holds Tryd.pinned (.plain (OpenSpec.ofChange articleToLineSpec)) articleToLineCard

/-- THE TIED CARD OF 'bulletinlaw15.ArticleFromLine'. -/
def articleFromLineCard : Claim7 := { stood := { row := articleFromLineRow, standIns := [], harness := (true, "994a9fd9620032470bf84e20d6a0033d3417564f936f60bd0c5af405b4756698"), looks := false }, kinds := [], alts := [], laidByText := true, laidKinds := [.data, .pinned], laidTests := true, laidLooks := .later }
def ArticleFromLineCardSaid : Prop := Claim7.holds Tryd.pinned (.plain (OpenSpec.ofChange articleFromLineSpec)) articleFromLineCard

/-- THE SECOND FORM's CARD OF 'bulletinlaw15.ArticleToLine'. -/
def articleToLineUptoCard : Claim7 := { stood := { row := articleToLineUptoRow, standIns := [], harness := (true, "994a9fd9620032470bf84e20d6a0033d3417564f936f60bd0c5af405b4756698"), looks := false }, kinds := [], alts := [], laidByText := true, laidKinds := [.data, .pinned], laidTests := true, laidLooks := .later }
def ArticleToLineUptoCardSaid : Prop := Claim7.holds Tryd.pinned (.plain (OpenSpec.upto articleToLineSpec)) articleToLineUptoCard

/-- THE SECOND FORM's CARD OF 'bulletinlaw15.ArticleFromLine'. -/
def articleFromLineUptoCard : Claim7 := { stood := { row := articleFromLineUptoRow, standIns := [], harness := (true, "994a9fd9620032470bf84e20d6a0033d3417564f936f60bd0c5af405b4756698"), looks := false }, kinds := [], alts := [], laidByText := true, laidKinds := [.data, .pinned], laidTests := true, laidLooks := .later }
def ArticleFromLineUptoCardSaid : Prop := Claim7.holds Tryd.pinned (.plain (OpenSpec.upto articleFromLineSpec)) articleFromLineUptoCard
end Rows
end Go.Proofs.YtcohgjdijhogbaaDoor
