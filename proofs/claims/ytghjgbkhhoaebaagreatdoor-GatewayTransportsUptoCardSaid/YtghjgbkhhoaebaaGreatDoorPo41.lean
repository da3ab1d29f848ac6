/- Lemmas and walks, part 41. -/
import Derived.Test.YtghjgbkhhoaebaaGreatDoorPo39
import Derived.Test.YtghjgbkhhoaebaaGreatDoorPo40
import Derived.Deep.RegionHeld3
import Derived.Deep.AppendLies
namespace Go.Proofs.YtghjgbkhhoaebaaGreatDoor
set_option linter.unusedSimpArgs false
set_option linter.unusedVariables false
open Go.RowKit

def cutF (f : Fd) : Fd := (f.1.take 60, f.2.take 9000)
def cutList (l : List Fd) : List Fd := (l.take 70).map cutF
def Sized (l : List Fd) : Prop := l.length ≤ maxLen ∧ ∀ f ∈ l, f.1.length ≤ maxLen ∧ f.2.length ≤ maxLen

/-- Behind 'append(v, F{..})' of one field. -/
structure FldsOwn (w wr : World) (e : TypeId) (v : Value) (l : List Fd) : Prop where
  own : wr.ownsRow w.heap.size e 2 v l.length (fldsV l)
  bel : Below w.heap.size w wr

theorem fldsV_snoc (l : List Fd) (n b : ByteArray) : fldsV l ++ [.string n, .string b] = fldsV (l ++ [(toL n, toL b)]) := by simp [fldsV, ofL_toL]

theorem FldsOwn.push {w wr w1 : World} {e : TypeId} {v v' : Value} {l : List Fd} {n b : ByteArray} (h : FldsOwn w wr e v l) {o : Obj} (hown : w1.ownsRow w.heap.size e 2 v' (l.length + 1) (fldsV l ++ [.string n, .string b])) (hg : (wr.alloc o).drew.grownBy w1 v.ownBlock) : FldsOwn w w1 e v' (l ++ [(toL n, toL b)]) := by
  refine ⟨by rw [← fldsV_snoc]; simpa using hown, ?_⟩
  have hs := h.bel.size
  exact ((h.bel.alloc hs o).drew).grown hg (by simp; omega) (fun k hk => (h.own.lt k hk).1)

theorem cutList_length (l : List Fd) : (cutList l).length = min 70 l.length := by simp [cutList]
theorem cutList_mild (l : List Fd) : Mild (cutList l) := by
  refine ⟨by rw [cutList_length]; omega, fun f hf => ?_⟩
  simp only [cutList, List.mem_map] at hf
  obtain ⟨g, _, rfl⟩ := hf
  simp only [cutF, List.length_take]
  omega

end Go.Proofs.YtghjgbkhhoaebaaGreatDoor
