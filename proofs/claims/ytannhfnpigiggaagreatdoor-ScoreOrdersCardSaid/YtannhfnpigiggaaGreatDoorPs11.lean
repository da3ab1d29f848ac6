/- Lemmas and walks, part 11. -/
import Derived.Test.YtannhfnpigiggaaGreatDoorPs6
namespace Go.Proofs.YtannhfnpigiggaaGreatDoor
set_option linter.unusedSimpArgs false
set_option linter.unusedVariables false

theorem endF_ge (L : List UInt8) (i : Nat) : i ≤ endF L i := by unfold endF; omega
theorem endF_le (L : List UInt8) (i : Nat) (h : i ≤ L.length) : endF L i ≤ L.length := by
  unfold endF
  have : ((L.drop i).takeWhile (· != 10)).length ≤ (L.drop i).length := (List.takeWhile_sublist _).length_le
  rw [List.length_drop] at this; omega
/-- Where the lines begin and end, from i on. -/
def spansU : Nat → List UInt8 → Nat → List (Nat × Nat)
  | 0, _, _ => []
  | k + 1, L, i => if i < L.length then (i, endF L i) :: spansU k L (endF L i + 1) else []
def spans (L : List UInt8) (i : Nat) : List (Nat × Nat) := spansU (L.length + 1) L i
theorem spansU_fuel : ∀ (n m : Nat) (L : List UInt8) (i : Nat), L.length < n + i → L.length < m + i → spansU n L i = spansU m L i
  | 0, 0, _, _, _, _ => rfl
  | 0, m + 1, L, i, h, _ => by rw [spansU, spansU, if_neg (by omega)]
  | n + 1, 0, L, i, _, h => by rw [spansU, spansU, if_neg (by omega)]
  | n + 1, m + 1, L, i, h1, h2 => by
    rw [spansU, spansU]
    by_cases h : i < L.length
    · have := endF_ge L i
      rw [if_pos h, if_pos h, spansU_fuel n m L _ (by omega) (by omega)]
    · rw [if_neg h, if_neg h]
theorem spans_step {L : List UInt8} {i : Nat} (h : i < L.length) : spans L i = (i, endF L i) :: spans L (endF L i + 1) := by
  have := endF_ge L i
  unfold spans
  rw [spansU, if_pos h, spansU_fuel L.length (L.length + 1) L _ (by omega) (by omega)]
theorem spans_end {L : List UInt8} {i : Nat} (h : L.length ≤ i) : spans L i = [] := by
  unfold spans; rw [spansU, if_neg (by omega)]
end Go.Proofs.YtannhfnpigiggaaGreatDoor

namespace Go.Proofs.YtannhfnpigiggaaGreatDoor
set_option linter.unusedSimpArgs false
set_option linter.unusedVariables false
open Go.RowKit

end Go.Proofs.YtannhfnpigiggaaGreatDoor

namespace Go.Proofs.YtannhfnpigiggaaGreatDoor
set_option linter.unusedSimpArgs false
set_option linter.unusedVariables false
open Go.RowKit

/-- The lines' texts. -/
def linesF (L : List UInt8) : List (List UInt8) := (spans L 0).map fun x => cutL L x.1 x.2
end Go.Proofs.YtannhfnpigiggaaGreatDoor

namespace Go.Proofs.YtannhfnpigiggaaGreatDoor
set_option linter.unusedSimpArgs false
set_option linter.unusedVariables false
open Go.RowKit

end Go.Proofs.YtannhfnpigiggaaGreatDoor
