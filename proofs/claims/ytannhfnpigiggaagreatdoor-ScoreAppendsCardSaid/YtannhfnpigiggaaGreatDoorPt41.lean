import Derived.Test.YtannhfnpigiggaaGreatDoorPt3
import Derived.Deep.Slices
import Derived.Deep.Fields
import Derived.ChangeSame
import Derived.SliceStrings
import Derived.ProofKit
import Derived.OpenShut
namespace Go.Proofs.YtannhfnpigiggaaGreatDoor
set_option linter.unusedSimpArgs false
set_option linter.unusedVariables false
open Go.ChangeShapes Go.WideShapes Go.ChangeAt Go.RowKit Go.Deep
theorem spot_none{w:World}{a:Addr}{v:Value}(h:w.cell? a=some v):a.spot=none:=by
 cases hs:a.spot with
 | none=>rfl
 | some n =>
  unfold World.cell? at h
  split at h
  ·simp[hs]at h
  ·cases h
def SizedS(l:List (List UInt8))(c:Nat):Prop:=l.length<=c/\c<=maxLen/\∀x∈l,x.length<=maxLen
section
variable {H : Type} {enc : TypeId × Value → H} {P : Program} {w : World} {r : Reach}
end
end Go.Proofs.YtannhfnpigiggaaGreatDoor
