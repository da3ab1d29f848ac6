/- Lemmas and walks, part 23. -/
import Derived.Test.YtannhfnpigiggaaGreatDoorPs4
import Derived.Test.YtannhfnpigiggaaGreatDoorPs8
namespace Go.Proofs.YtannhfnpigiggaaGreatDoor
set_option linter.unusedSimpArgs false
set_option linter.unusedVariables false
open Go.RowKit

structure StrsOwn (w wr : World) (v : Value) (l : List (List UInt8)) : Prop where
  own : wr.ownsRow w.heap.size 9 1 v l.length (strsL l)
  bel : Below w.heap.size w wr
theorem StrsOwn.later {w wr w1 : World} {v : Value} {l : List (List UInt8)} (h : StrsOwn w wr v l) (hb : Below wr.heap.size wr w1) : StrsOwn w w1 v l :=
  ⟨own_below h.own hb, h.bel.trans (hb.mono h.bel.size)⟩


end Go.Proofs.YtannhfnpigiggaaGreatDoor
