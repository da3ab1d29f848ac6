/- Lemmas and walks, part 23. -/
import Derived.Test.YtannhfnpigiggaaGreatDoorPs4
import Derived.Test.YtannhfnpigiggaaGreatDoorPs8
namespace Go.Proofs.YtannhfnpigiggaaGreatDoor
set_option linter.unusedSimpArgs false
set_option linter.unusedVariables false
open Go.RowKit

theorem info_string : (Tryz.prog.info? 9).map (fun i => (i.zero, i.size, i.bytes)) = some (some (.string ⟨#[]⟩), 1, 16) := by kernel_rfl
theorem el_string : Elem Tryz.prog 24 9 1 16 := Elem.of Tryz.underlying24 info_string rfl (by omega)
structure StrsOwn (w wr : World) (v : Value) (l : List (List UInt8)) : Prop where
  own : wr.ownsRow w.heap.size 9 1 v l.length (strsL l)
  bel : Below w.heap.size w wr
theorem StrsOwn.push1 {w wr w1 : World} {v v' : Value} {l : List (List UInt8)} {x : ByteArray} (h : StrsOwn w wr v l) (hown : w1.ownsRow w.heap.size 9 1 v' (l.length + 1) (strsL l ++ [.string x])) (hg : wr.grownBy w1 v.ownBlock) : StrsOwn w w1 v' (l ++ [toL x]) := by
  refine ⟨by simpa [ofL_toL] using hown, ?_⟩
  exact h.bel.grown hg h.bel.size (fun k hk => (h.own.lt k hk).1)
theorem StrsOwn.later {w wr w1 : World} {v : Value} {l : List (List UInt8)} (h : StrsOwn w wr v l) (hb : Below wr.heap.size wr w1) : StrsOwn w w1 v l :=
  ⟨own_below h.own hb, h.bel.trans (hb.mono h.bel.size)⟩


end Go.Proofs.YtannhfnpigiggaaGreatDoor
