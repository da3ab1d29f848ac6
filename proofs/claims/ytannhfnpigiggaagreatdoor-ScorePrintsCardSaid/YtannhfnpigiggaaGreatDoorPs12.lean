/- Lemmas and walks, part 12. -/
import Derived.Test.YtannhfnpigiggaaGreatDoorPs11
import Derived.Test.YtannhfnpigiggaaGreatDoorShelf
namespace Go.Proofs.YtannhfnpigiggaaGreatDoor
set_option linter.unusedSimpArgs false
set_option linter.unusedVariables false
open Go.RowKit

theorem trim_space (X : ByteArray) : toL (⟨(Lib.trimPrefix X.data.toList (⟨#[32]⟩ : ByteArray).data.toList).toArray⟩ : ByteArray) = if (toL X)[0]? = some 32 then (toL X).drop 1 else toL X := by
  show (Lib.trimPrefix (toL X) [32]) = _
  cases h : toL X with
  | nil => rfl
  | cons c r =>
    by_cases e : c = 32
    · subst e; simp [Lib.trimPrefix, Lib.hasPrefix]
    · simp [Lib.trimPrefix, Lib.hasPrefix, e]; exact fun h => e h.symm
end Go.Proofs.YtannhfnpigiggaaGreatDoor
