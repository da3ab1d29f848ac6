/- Lemmas and walks, part 30. -/
import Derived.Test.YtannhfnpigiggaaGreatDoorPs4
import Derived.Test.YtannhfnpigiggaaGreatDoorPs23
import Derived.Test.YtannhfnpigiggaaGreatDoorPs1
import Derived.Deep.RegionHeld3
import Derived.Deep.RegionLaw
import Derived.Deep.AppendLies
import Derived.Lib.Builder
namespace Go.Proofs.YtannhfnpigiggaaGreatDoor
set_option linter.unusedSimpArgs false
set_option linter.unusedVariables false
open Go.RowKit

end Go.Proofs.YtannhfnpigiggaaGreatDoor
