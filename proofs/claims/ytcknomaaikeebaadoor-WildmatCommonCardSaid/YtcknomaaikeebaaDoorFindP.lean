/- Searching a list, as a plain function. No program here. -/
import Derived.Test.YtcknomaaikeebaaDoorBytes
namespace Go.Proofs.YtcknomaaikeebaaDoor
set_option linter.unusedSimpArgs false
set_option linter.unusedVariables false

/-- Where the first element lies that p accepts, or -1. -/
def findI {α : Type} (p : α → Bool) : List α → Nat → Int
  | [], _ => -1
  | x :: r, k => if p x then (k : Int) else findI p r (k + 1)

theorem findI_geq {α : Type} (p : α → Bool) (l : List α) : ∀ k : Nat, decide (0 ≤ findI p l k) = l.any p := by
  induction l with
  | nil => intro k; simp [findI]
  | cons x r ih => intro k; by_cases h : p x = true <;> simp [findI, h, ← ih (k + 1)]
theorem findI_range {α : Type} (p : α → Bool) (l : List α) : ∀ k : Nat, findI p l k = -1 ∨ (k ≤ findI p l k ∧ findI p l k < k + l.length) := by
  induction l with
  | nil => intro k; simp [findI]
  | cons x r ih =>
    intro k
    by_cases h : p x = true
    · simp [findI, h]; omega
    · have := ih (k + 1); simp [findI, h] at this ⊢; omega

end Go.Proofs.YtcknomaaikeebaaDoor
