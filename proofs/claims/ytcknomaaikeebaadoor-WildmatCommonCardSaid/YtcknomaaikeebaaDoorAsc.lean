/- Walks over package ascii and its reference: the classes of bytes. -/
import Derived.Test.YtcknomaaikeebaaDoorRows
import Derived.Test.YtcknomaaikeebaaDoorBytes
import Derived.Test.YtcknomaaikeebaaDoorMem2
import Derived.WalkKit
import Derived.WalkSpells
import Derived.WalkLawsBesides
import Derived.Lib.Hide
import Derived.Deep.QuietTactic
import Derived.BigQuiet
namespace Go.Proofs.YtcknomaaikeebaaDoor
set_option linter.unusedSimpArgs false
set_option linter.unusedVariables false
open Go.RowKit

set_option maxHeartbeats 400000 in
theorem asc_isLower (c : Int) (w : World) :
    Calls Tryd.prog 35 #[.int .u8 c] w fun e w' => e = .returned (.bool (isLower c)) ∧ w = w' := by
  go_enter Tryd.func35, Tryd.ntmps35
  go_wp2
  all_goals (go_ret; exact ⟨ret_bool (by simp [isLetter, isLower, isUpper, isDigit, isVisible, isBlank, *] <;> omega), rfl⟩)



set_option maxHeartbeats 400000 in
theorem asc_isDigit (c : Int) (w : World) :
    Calls Tryd.prog 36 #[.int .u8 c] w fun e w' => e = .returned (.bool (isDigit c)) ∧ w = w' := by
  go_enter Tryd.func36, Tryd.ntmps36
  go_wp2
  all_goals (go_ret; exact ⟨ret_bool (by simp [isLetter, isLower, isUpper, isDigit, isVisible, isBlank, *] <;> omega), rfl⟩)







end Go.Proofs.YtcknomaaikeebaaDoor
