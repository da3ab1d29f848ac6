/- Walks over package ascii and its reference: the classes of bytes. -/
import Derived.Test.YtaigbplfbfaghaaRows
import Derived.Test.YtaigbplfbfaghaaBytes
import Derived.Test.YtaigbplfbfaghaaMem2
import Derived.WalkKit
import Derived.WalkSpells
import Derived.WalkLawsBesides
import Derived.Lib.Hide
import Derived.Deep.QuietTactic
import Derived.BigQuiet
namespace Go.Proofs.Ytaigbplfbfaghaa
set_option linter.unusedSimpArgs false
set_option linter.unusedVariables false
open Go.RowKit

set_option maxHeartbeats 400000 in
theorem asc_isLower (c : Int) (w : World) :
    Calls Try.prog 70 #[.int .u8 c] w fun e w' => e = .returned (.bool (isLower c)) ∧ w = w' := by
  go_enter Try.func70, Try.ntmps70
  go_wp2
  all_goals (go_ret; exact ⟨ret_bool (by simp [isLetter, isLower, isUpper, isDigit, isVisible, isBlank, *] <;> omega), rfl⟩)

set_option maxHeartbeats 400000 in
theorem asc_isUpper (c : Int) (w : World) :
    Calls Try.prog 71 #[.int .u8 c] w fun e w' => e = .returned (.bool (isUpper c)) ∧ w = w' := by
  go_enter Try.func71, Try.ntmps71
  go_wp2
  all_goals (go_ret; exact ⟨ret_bool (by simp [isLetter, isLower, isUpper, isDigit, isVisible, isBlank, *] <;> omega), rfl⟩)

set_option maxHeartbeats 400000 in
theorem asc_isLetter (c : Int) (w : World) :
    Calls Try.prog 37 #[.int .u8 c] w fun e w' => e = .returned (.bool (isLetter c)) ∧ w = w' := by
  go_enter Try.func37, Try.ntmps37
  go_wp2
  all_goals (go_ret; exact ⟨ret_bool (by simp [isLetter, isLower, isUpper, isDigit, isVisible, isBlank, *] <;> omega), rfl⟩)

set_option maxHeartbeats 400000 in
theorem asc_isDigit (c : Int) (w : World) :
    Calls Try.prog 40 #[.int .u8 c] w fun e w' => e = .returned (.bool (isDigit c)) ∧ w = w' := by
  go_enter Try.func40, Try.ntmps40
  go_wp2
  all_goals (go_ret; exact ⟨ret_bool (by simp [isLetter, isLower, isUpper, isDigit, isVisible, isBlank, *] <;> omega), rfl⟩)

set_option maxHeartbeats 400000 in
theorem asc_isVisible (c : Int) (w : World) :
    Calls Try.prog 79 #[.int .u8 c] w fun e w' => e = .returned (.bool (isVisible c)) ∧ w = w' := by
  go_enter Try.func79, Try.ntmps79
  go_wp2
  all_goals (go_ret; exact ⟨ret_bool (by simp [isLetter, isLower, isUpper, isDigit, isVisible, isBlank, *] <;> omega), rfl⟩)

set_option maxHeartbeats 400000 in
theorem asc_isBlank (c : Int) (w : World) :
    Calls Try.prog 75 #[.int .u8 c] w fun e w' => e = .returned (.bool (isBlank c)) ∧ w = w' := by
  go_enter Try.func75, Try.ntmps75
  go_wp2
  all_goals (go_ret; exact ⟨ret_bool (by simp [isLetter, isLower, isUpper, isDigit, isVisible, isBlank, *] <;> omega), rfl⟩)

set_option maxHeartbeats 400000 in
theorem ref_lowercase (c : Int) (w : World) :
    Calls Try.prog 41 #[.int .u8 c] w fun e w' => e = .returned (.bool (isLower c)) ∧ w = w' := by
  go_enter Try.func41, Try.ntmps41
  go_wp2
  all_goals (go_ret; exact ⟨ret_bool (by simp [isLetter, isLower, isUpper, isDigit, isVisible, isBlank, *] <;> omega), rfl⟩)

set_option maxHeartbeats 400000 in
theorem ref_uppercase (c : Int) (w : World) :
    Calls Try.prog 42 #[.int .u8 c] w fun e w' => e = .returned (.bool (isUpper c)) ∧ w = w' := by
  go_enter Try.func42, Try.ntmps42
  go_wp2
  all_goals (go_ret; exact ⟨ret_bool (by simp [isLetter, isLower, isUpper, isDigit, isVisible, isBlank, *] <;> omega), rfl⟩)

set_option maxHeartbeats 400000 in
theorem ref_digit (c : Int) (w : World) :
    Calls Try.prog 43 #[.int .u8 c] w fun e w' => e = .returned (.bool (isDigit c)) ∧ w = w' := by
  go_enter Try.func43, Try.ntmps43
  go_wp2
  all_goals (go_ret; exact ⟨ret_bool (by simp [isLetter, isLower, isUpper, isDigit, isVisible, isBlank, *] <;> omega), rfl⟩)

set_option maxHeartbeats 400000 in
theorem ref_visible (c : Int) (w : World) :
    Calls Try.prog 58 #[.int .u8 c] w fun e w' => e = .returned (.bool (isVisible c)) ∧ w = w' := by
  go_enter Try.func58, Try.ntmps58
  go_wp2
  all_goals (go_ret; exact ⟨ret_bool (by simp [isLetter, isLower, isUpper, isDigit, isVisible, isBlank, *] <;> omega), rfl⟩)

set_option maxHeartbeats 400000 in
theorem ref_blank (c : Int) (w : World) :
    Calls Try.prog 53 #[.int .u8 c] w fun e w' => e = .returned (.bool (isBlank c)) ∧ w = w' := by
  go_enter Try.func53, Try.ntmps53
  go_wp2
  all_goals (go_ret; exact ⟨ret_bool (by simp [isLetter, isLower, isUpper, isDigit, isVisible, isBlank, *] <;> omega), rfl⟩)
end Go.Proofs.Ytaigbplfbfaghaa
