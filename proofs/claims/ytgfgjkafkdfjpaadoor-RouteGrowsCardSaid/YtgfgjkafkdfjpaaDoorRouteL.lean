/- What the laws on routes lean on. -/
import Derived.Test.YtgfgjkafkdfjpaaDoorRouteK
import Derived.Test.YtgfgjkafkdfjpaaDoorRoute6
import Derived.Test.YtgfgjkafkdfjpaaDoorRoute8
import Derived.Test.YtgfgjkafkdfjpaaDoorLaw
import Derived.Test.YtgfgjkafkdfjpaaDoorLaidW
import Derived.Test.YtgfgjkafkdfjpaaDoorOpen0
import Derived.Test.YtgfgjkafkdfjpaaDoorCards
import Derived.Test.YtgfgjkafkdfjpaaDoorTie
namespace Go.Proofs.YtgfgjkafkdfjpaaDoor
set_option linter.unusedSimpArgs false
set_option linter.unusedVariables false
open Go.ChangeShapes Go.WideShapes Go.ChangeAt Go.RowKit
open Go.ChangeMaps (open_string shut_string)

/-- The walk's beginning: cut. -/
theorem cut_any (A : Option Addr) (l : List Bs) (c : Nat) (w : World) (hr : Row w A (strsL l)) (hs : SizedS l c) :
    Calls Tryd.prog 16 #[.slice A l.length c] w fun e w' => ∃ A' c', e = .returned (.slice A' (cutS l).length c') ∧ (cutS l).length ≤ c' ∧ Row w' A' (strsL (cutS l)) ∧ Below w.heap.size w w' := by
  refine (law_cut A l c w hr (Nat.le_trans hs.1 hs.2.1) hs.2.2).mono ?_
  rintro e w' ⟨v, rfl, hF⟩
  obtain ⟨A1, c1, rfl, hcap, hrow⟩ := own_row_cap hF.own
  exact ⟨A1, c1, rfl, hcap, hrow, hF.bel⟩
end Go.Proofs.YtgfgjkafkdfjpaaDoor
