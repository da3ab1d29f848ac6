import Derived.Test.YtannhfnpigiggaaGreatDoorPt42
import Derived.Test.YtannhfnpigiggaaGreatDoorPt54
namespace Go.Proofs.YtannhfnpigiggaaGreatDoor
set_option linter.unusedSimpArgs false
set_option linter.unusedVariables false
open Go.RowKit
attribute [local go_sem ↓] wp_load_in wp_load_inR
theorem ex_load_inR{d:Option Tmp}{ty:TypeId}{pos:String}{af:Array Edge}{x:Operand}{ρ:Operand->Value}{w:World}{g:Option (Nat × Bool)}(h:OkInR w (ρ x)) :
  (execOp ρ { dst:=d,op:=.load 35 x,type:=ty,pos:=pos,after:=af,guard:=g }).run Tryz.prog w=.ok (.value (inOfR w (ρ x))) w:=by
 obtain⟨u,hu⟩:=h
 rw[(inR_of hu).2]
 unfold execOp
 simp only[hu,Sem.run_bind,Sem.run_pure,Result.andThen_ok]
attribute [local go_sem ↓] ex_load_inR
abbrev RtR(W:World)(px:Nat)(L:List Value)(wx:World):Prop:=wx.rangeAt px 0 L/\Below W.heap.size W wx
theorem RtR.later{W wx wy:World}{px:Nat}{L:List Value}(h:RtR W px L wx)(hb:Below wx.heap.size wx wy)(hz:px<W.heap.size):RtR W px L wy :=
 ⟨fun j v hv=>by rw[World.cell?_of_block (hb.block px (Nat.lt_of_lt_of_le hz h.2.size))];exact h.1 j v hv,h.2.trans (hb.mono h.2.size)⟩
end Go.Proofs.YtannhfnpigiggaaGreatDoor
