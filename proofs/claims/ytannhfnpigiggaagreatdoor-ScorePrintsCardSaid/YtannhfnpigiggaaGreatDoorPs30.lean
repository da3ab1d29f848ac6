/- Lemmas and walks, part 30. -/
import Derived.Test.YtannhfnpigiggaaGreatDoorPs4
import Derived.Test.YtannhfnpigiggaaGreatDoorPs23
import Derived.Test.YtannhfnpigiggaaGreatDoorPs1
import Derived.Deep.RegionHeld3
import Derived.Deep.RegionLaw
import Derived.Deep.AppendLies
import Derived.Lib.Builder
namespace Go.Proofs.YtannhfnpigiggaaGreatDoor
set_option linter.unusedSimpArgs false
set_option linter.unusedVariables false
open Go.RowKit

theorem class_blank : ClassIs 47 isBlank := ⟨Tryz.call47, asc_isBlank⟩
/-- What holds at the head of each round of Words: what has been collected. -/
structure WordsAt (N k : Nat) (s : ByteArray) (w wr : World) : Prop where
  ex : ∃ (v : Value) (ws : List (List UInt8)), wr.heap[N]? = some (.cells #[.string s] 9 (0, 0)) ∧ wr.heap[N + 1]? = some (.cells #[v] 24 (0, 0)) ∧
    wr.ownsRow (N + 2) 9 1 v ws.length (strsL ws) ∧ words (toL s) = ws ++ words ((toL s).drop k) ∧ ws.length ≤ k ∧ N + 2 ≤ wr.heap.size ∧ Below N w wr

def WordsPost (s : ByteArray) (w : World) (e : Ending) (w' : World) : Prop :=
  ∃ v, e = .returned v ∧ w'.ownsRow w.heap.size 9 1 v (words (toL s)).length (strsL (words (toL s))) ∧ Below w.heap.size w w'

/-- Where the reference's Words stands: from, and what it has read of the current word. -/
def FromAt (l : List UInt8) (k : Nat) (cur : List UInt8) (v : Value) : Prop :=
  (v = .int .i64 (-1) ∧ cur = []) ∨ ∃ f : Nat, v = .int .i64 f ∧ f < k ∧ k ≤ l.length ∧ cur = cutL l f k

structure RWordsAt (k : Nat) (s : ByteArray) (w wr : World) (v u : Value) : Prop where
  ex : ∃ (ws : List (List UInt8)) (cur : List UInt8), wr.ownsRow w.heap.size 9 1 v ws.length (strsL ws) ∧ FromAt (toL s) k cur u ∧
    words (toL s) = ws ++ wordsAux ((toL s).drop k) cur ∧ ws.length ≤ k ∧ Below w.heap.size w wr

theorem wordsAux_blank (l : List UInt8) (k : Nat) (cur : List UInt8) (h : l.length ≤ k ∨ ∃ hk : k < l.length, isBlank (num l[k]) = true) :
    wordsAux (l.drop k) cur = (if cur = [] then [] else [cur]) ++ wordsAux (l.drop (k + 1)) [] := by
  rcases h with h | ⟨hk, hb⟩
  · rw [List.drop_eq_nil_of_le h, List.drop_eq_nil_of_le (by omega)]; simp [wordsAux]
  · rw [drop_cons l k hk, wordsAux, if_pos hb]; split <;> simp
theorem wordsAux_char (l : List UInt8) (k : Nat) (cur : List UInt8) (hk : k < l.length) (hb : isBlank (num l[k]) = false) :
    wordsAux (l.drop k) cur = wordsAux (l.drop (k + 1)) (cur ++ [l[k]]) := by
  rw [drop_cons l k hk, wordsAux, if_neg (by simp [hb])]

end Go.Proofs.YtannhfnpigiggaaGreatDoor
