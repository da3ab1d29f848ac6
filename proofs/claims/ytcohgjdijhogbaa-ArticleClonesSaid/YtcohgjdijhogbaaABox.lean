/- A struct of a slice and a string in a block of its own. -/
import Derived.Test.YtcohgjdijhogbaaPt18
namespace Go.Proofs.Ytcohgjdijhogbaa
set_option linter.unusedSimpArgs false
set_option linter.unusedVariables false
open Go.RowKit

/-- A struct of a slice and a string in a block of its own, and the slice's row. -/
structure ABox (w : World) (r : Nat) (t : TypeId) (A : Option Addr) (l : List Fd) (c : Nat) (b : ByteArray) : Prop where
  box : w.heap[r]? = some (.cells #[.slice A l.length c, .string b] t (0, 0))
  row : Row w A (fldsV l)
theorem ABox.later {w w' : World} {r : Nat} {t : TypeId} {A : Option Addr} {l : List Fd} {c : Nat} {b : ByteArray} (h : ABox w r t A l c b) (hb : Below w.heap.size w w') : ABox w' r t A l c b :=
  ⟨(hb.block _ (heap_lt h.box)).trans h.box, h.row.below hb⟩
theorem ABox.c0 {w : World} {r : Nat} {t : TypeId} {A : Option Addr} {l : List Fd} {c : Nat} {b : ByteArray} (h : ABox w r t A l c b) : w.cell? ⟨r, 0, none⟩ = some (.slice A l.length c) := by rw [Lib.cell_of_heap h.box]; rfl
theorem ABox.c1 {w : World} {r : Nat} {t : TypeId} {A : Option Addr} {l : List Fd} {c : Nat} {b : ByteArray} (h : ABox w r t A l c b) : w.cell? ⟨r, 1, none⟩ = some (.string b) := by rw [Lib.cell_of_heap h.box]; rfl
theorem ABox.new {w1 : World} {t : TypeId} {A : Option Addr} {l : List Fd} {c : Nat} {b : ByteArray} (h : Row w1 A (fldsV l)) : ABox (w1.alloc (.cells #[.slice A l.length c, .string b] t)) w1.heap.size t A l c b :=
  ⟨World.alloc_heap_new _ _, h.below ((Below.refl _ _).alloc (Nat.le_refl _) _)⟩

end Go.Proofs.Ytcohgjdijhogbaa
