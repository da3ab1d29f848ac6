import Derived.Test.YtannhfnpigiggaaGreatDoorPl3
import Derived.Lib.SplitLaws
import Derived.Lib.IndexBytes
import Derived.Lib.IndexLaws
namespace Go.Proofs.YtannhfnpigiggaaGreatDoor
set_option linter.unusedSimpArgs false
set_option linter.unusedVariables false
/-! What is read holds no marks of lists. -/
/-! Patterns of name characters. -/
end Go.Proofs.YtannhfnpigiggaaGreatDoor
