/- The walk over an article's Check. -/
import Derived.Test.YtcohgjdijhogbaaGreatPt18
namespace Go.Proofs.YtcohgjdijhogbaaGreat
set_option linter.unusedSimpArgs false
set_option linter.unusedVariables false
open Go.RowKit

set_option maxHeartbeats 4000000 in
set_option maxRecDepth 100000 in
theorem art_check (A : Option Addr) (l : List Fd) (c : Nat) (b : ByteArray) (w : World) (hsh : w.ShapedOpen Tryz.prog) (hr : Row w A (fldsV l)) (hl : Mild l) (hs : b.size ≤ 900000) :
    Calls Tryz.prog 15 #[.agg #[.slice A l.length c, .string b]] w fun e w' => e = .returned (.int .i64 (priF l (toL b)).2) ∧ Below w.heap.size w w' := by
  have hBa : Below w.heap.size w (w.alloc (.cells #[.slice A l.length c, .string b] 25)) := (Below.refl _ _).alloc (Nat.le_refl _) _
  have HBa := Lib.hid hBa
  have HPR := Lib.hid (art_print A l c b (w.alloc (.cells #[.slice A l.length c, .string b] 25)) (shaped_below hsh hBa) (hr.below hBa) hl hs)
  clear hsh hr hl hBa
  generalize priF l (toL b) = V at *
  obtain ⟨tt, te⟩ := V
  simp only at HPR
  go_enter Tryz.func15, Tryz.ntmps15
  go_wp2_with fail
  (with_reducible refine HPR.out.mono ?_)
  rintro e w1 ⟨rfl, hb1⟩
  have HB1 := Lib.hid (HBa.out.trans (hb1.mono HBa.out.size))
  clear hb1
  go_wp2_with fail
  go_ret
  exact ⟨rfl, HB1.out⟩
end Go.Proofs.YtcohgjdijhogbaaGreat
