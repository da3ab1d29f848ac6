/- The walk over commonRest: all cases. -/
import Derived.Test.YtcknomaaikeebaaDoorWm8b
import Derived.Test.YtcknomaaikeebaaDoorWm8c
import Derived.Test.YtcknomaaikeebaaDoorWm8d
import Derived.Test.YtcknomaaikeebaaDoorWm8e
import Derived.Test.YtcknomaaikeebaaDoorWm8f
namespace Go.Proofs.YtcknomaaikeebaaDoor
set_option linter.unusedSimpArgs false
set_option linter.unusedVariables false
open Go.RowKit

theorem wm_rest (w : World) (pb qb mb i k : Nat) (tp tq : ByteArray) (ps qs : List Em) (m : PosMap) (hp : PatAt w pb tp ps) (hq : PatAt w qb tq qs) (hm : MapP w mb m)
    (hop : ∀ e ∈ ps, e.Ok) (hlp : ps.length ≤ 100) (hlq : qs.length ≤ 100) (hi : i ≤ ps.length) (hk : k ≤ qs.length) (hv : ∀ x v, m.lookup x = some v → v.length ≤ 500) :
    Calls Tryd.prog 19 #[.pointer (some ⟨pb, 0, none⟩), .pointer (some ⟨qb, 0, none⟩), .agg #[.int .i64 i, .int .i64 k], .map (some mb)] w (RestPost w (stepF ps qs m i k)) := by
  by_cases h1 : i < ps.length <;> by_cases h2 : k < qs.length
  · rcases hx : (emAt ps i).isStar with _ | _ <;> rcases hy : (emAt qs k).isStar with _ | _
    · exact rest_00 w pb qb mb i k tp tq ps qs m hp hq hm hop hlp hlq hi hk hv h1 h2 hx hy
    · exact rest_01 w pb qb mb i k tp tq ps qs m hp hq hm hop hlp hlq hi hk hv h1 h2 hx hy
    · exact rest_10 w pb qb mb i k tp tq ps qs m hp hq hm hop hlp hlq hi hk hv h1 h2 hx hy
    · exact rest_11 w pb qb mb i k tp tq ps qs m hp hq hm hop hlp hlq hi hk hv h1 h2 hx hy
  · rcases hx : (emAt ps i).isStar with _ | _
    · exact rest_0n w pb qb mb i k tp tq ps qs m hp hq hm hop hlp hlq hi hk hv h1 h2 hx
    · exact rest_1n w pb qb mb i k tp tq ps qs m hp hq hm hop hlp hlq hi hk hv h1 h2 hx
  · rcases hy : (emAt qs k).isStar with _ | _
    · exact rest_n0 w pb qb mb i k tp tq ps qs m hp hq hm hop hlp hlq hi hk hv h1 h2 hy
    · exact rest_n1 w pb qb mb i k tp tq ps qs m hp hq hm hop hlp hlq hi hk hv h1 h2 hy
  · exact rest_nn w pb qb mb i k tp tq ps qs m hp hq hm hop hlp hlq hi hk hv h1 h2
end Go.Proofs.YtcknomaaikeebaaDoor
