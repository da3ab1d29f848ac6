import Derived.Test.YtannhfnpigiggaaGreatDoorPl1
import Derived.Lib.Replace
import Derived.Lib.CountLaws
import Derived.Lib.IndexBytes
namespace Go.Proofs.YtannhfnpigiggaaGreatDoor
set_option linter.unusedSimpArgs false
set_option linter.unusedVariables false
def repL(old new s:List UInt8):List UInt8:=Lib.replaceK old new (Lib.count s old) s
theorem repL_nil{old new:List UInt8}(ho:old≠[]):repL old new []=[]:=by
 have h:Lib.index [] old = -1:=by
  cases old with
  | nil=>exact absurd rfl ho
  | cons=>rfl
 unfold repL;rw[Lib.count_miss h];rfl
theorem repL_miss{old new:List UInt8}(ho:old≠[])(c:UInt8)(s:List UInt8)(h:old.isPrefixOf (c::s)=false):repL old new (c::s)=c::repL old new s:=by
 have hi:Lib.index (c::s) old=if Lib.index s old == -1 then -1 else Lib.index s old+1:=by rw[Lib.index,h];rfl
 by_cases hm:Lib.index s old = -1
 ·have h2:Lib.index (c::s) old = -1:=by rw[hi,hm];rfl
  unfold repL
  rw[Lib.count_miss h2,Lib.count_miss hm];rfl
 ·have hg:=Lib.index_ge s old
  obtain⟨i,hi2⟩:∃i:Nat,Lib.index s old=(i:Int):=⟨_,(Int.toNat_of_nonneg (by omega)).symm⟩
  have h2:Lib.index (c::s) old=((i+1:Nat):Int):=by
   rw[hi,hi2,if_neg (by simp)];rfl
  unfold repL
  rw[Lib.count_hit ho h2,Lib.count_hit ho hi2,Nat.add_comm 1,Nat.add_comm 1,Lib.replaceK_hit _ _ _ _ _ h2,Lib.replaceK_hit _ _ _ _ _ hi2]
  rw[show i+1+old.length=(i+old.length)+1 from by omega]
  simp
theorem repL_hit{old new:List UInt8}(ho:old≠[])(s:List UInt8)(h:old.isPrefixOf s=true):repL old new s=new++repL old new (s.drop old.length):=by
 have hi:Lib.index s old=((0:Nat):Int):=by
  cases s with
  | nil=>cases old with
   | nil=>exact absurd rfl ho
   | cons=>simp at h
  | cons c r=>rw[Lib.index,h];rfl
 unfold repL
 rw[Lib.count_hit ho hi,Nat.add_comm 1,Lib.replaceK_hit _ _ _ _ _ hi]
 simp
end Go.Proofs.YtannhfnpigiggaaGreatDoor
