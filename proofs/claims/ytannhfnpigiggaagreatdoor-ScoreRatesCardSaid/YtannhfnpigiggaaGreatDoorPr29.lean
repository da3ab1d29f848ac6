/- Lemmas and walks, part 29. -/
import Derived.Test.YtannhfnpigiggaaGreatDoorPr28
import Derived.Test.YtannhfnpigiggaaGreatDoorPrS
namespace Go.Proofs.YtannhfnpigiggaaGreatDoor
set_option linter.unusedSimpArgs false
set_option linter.unusedVariables false
open Go.RowKit
end Go.Proofs.YtannhfnpigiggaaGreatDoor

namespace Go.Proofs.YtannhfnpigiggaaGreatDoor
set_option linter.unusedSimpArgs false
set_option linter.unusedVariables false
open Go.RowKit
end Go.Proofs.YtannhfnpigiggaaGreatDoor
