/- A world in which the library's tables lie: the witness of the rows that list them. -/
import Derived.Test.YtcknomaaikeebaaDoorRows
import Derived.Deep.DeepHandedRow
import Derived.Lib.LaidTab
namespace Go.Proofs.YtcknomaaikeebaaDoor
set_option linter.unusedSimpArgs false
set_option linter.unusedVariables false

def leafV : DataW Unit → Value
  | .lit (.int k n) => .int k n
  | _ => undef
def flat1 : DataW Unit → List Value
  | .agg l => l.map leafV
  | _ => []
def flat2 : DataW Unit → List Value
  | .agg l => l.flatMap flat1
  | _ => []
def withCells (l : List Value) : Obj → Obj
  | .cells _ t frozen => .cells l.toArray t frozen
  | o => o
/-- The settled world, the tables holding what is listed. -/
noncomputable def laidWorld (os : Os) : World :=
  { World.holding Tryd.prog os ⟨#[], #[], []⟩ with heap := ((World.holding Tryd.prog os ⟨#[], #[], []⟩).heap.modify 1 (withCells (flat1 Rows.laid_unicode_utf8_first))).modify 2 (withCells (flat2 Rows.laid_unicode_utf8_acceptRanges)) }
theorem laid_met (os : Os) (args : Array Value) : laidMet Tryd.prog Rows.wildmatCommonRow.laid ((laidWorld os).forCall (fun _ _ => 0) ⟨#[], args, []⟩).memory :=
  laidMet_of_run' 8 (by kernel_rfl) (by kernel_rfl)
end Go.Proofs.YtcknomaaikeebaaDoor
