/- Lemmas and walks, part 28. -/
import Derived.Test.YtannhfnpigiggaaGreatDoorPr4
import Derived.Test.YtannhfnpigiggaaGreatDoorPr22
import Derived.Test.YtannhfnpigiggaaGreatDoorPr1
import Derived.Deep.RegionHeld3
import Derived.Deep.RegionLaw
import Derived.Deep.AppendLies
import Derived.Lib.Builder
namespace Go.Proofs.YtannhfnpigiggaaGreatDoor
set_option linter.unusedSimpArgs false
set_option linter.unusedVariables false
open Go.RowKit
end Go.Proofs.YtannhfnpigiggaaGreatDoor
