/- Lemmas and walks, part 25. -/
import Derived.Test.YtjmcfagmhniejaaGreatDoorPt3
import Derived.Test.YtjmcfagmhniejaaGreatDoorShelf
import Derived.Test.YtjmcfagmhniejaaGreatDoorRows
import Derived.Lib.AppendStr
import Derived.Lib.UnsafeStr
import Derived.Lib.Walk
import Derived.WalkSpells
import Derived.WalkLawsBesides
import Derived.Lib.Hide
namespace Go.Proofs.YtjmcfagmhniejaaGreatDoor
set_option linter.unusedSimpArgs false
set_option linter.unusedVariables false
open Go.RowKit

/-- Rows of other element types than t1, t2 stay as they are. -/
theorem info_byte : (Tryz.prog.info? 5).map (fun i => (i.zero, i.size, i.bytes)) = some (some (.int .u8 0), 1, 1) := by kernel_rfl
end Go.Proofs.YtjmcfagmhniejaaGreatDoor
