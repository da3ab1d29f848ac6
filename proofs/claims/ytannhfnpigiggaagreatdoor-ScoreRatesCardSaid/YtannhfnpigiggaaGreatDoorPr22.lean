/- Lemmas and walks, part 22. -/
import Derived.Test.YtannhfnpigiggaaGreatDoorPr4
import Derived.Test.YtannhfnpigiggaaGreatDoorPr8
namespace Go.Proofs.YtannhfnpigiggaaGreatDoor
set_option linter.unusedSimpArgs false
set_option linter.unusedVariables false
open Go.RowKit
end Go.Proofs.YtannhfnpigiggaaGreatDoor
