import Derived.Test.YtannhfnpigiggaaGreatDoorPl32
import Derived.Test.YtannhfnpigiggaaGreatDoorPl38
namespace Go.Proofs.YtannhfnpigiggaaGreatDoor
set_option linter.unusedSimpArgs false
set_option linter.unusedVariables false
open Go.RowKit


def OkInR(w:World)(v:Value):Prop := ∃u,(Instr.loadAt 35 v).run Tryz.prog w=.ok u w
noncomputable def inOfR(w:World)(v:Value):Value:=by
 classical exact if h:OkInR w v then h.choose else undef
theorem inR_of{w:World}{v u:Value}(h:(Instr.loadAt 35 v).run Tryz.prog w=.ok u w):OkInR w v/\inOfR w v=u:=by
 have hk:OkInR w v:=⟨u,h⟩
 refine⟨hk,?_⟩
 have h2:=h.symm.trans hk.choose_spec
 unfold inOfR
 rw[dif_pos hk]
 injection h2 with h2 _
 exact h2.symm
theorem wp_load_inR{d:Option Tmp}{ty:TypeId}{pos:String}{af:Array Edge}{x:Operand}{a:Act}{w:World}{K:Act->World->Prop}{Q:Exit->Act->World->Prop}{g:Option (Nat × Bool)}(h:OkInR w (a.eval x)) :
  Oper.wp Tryz.prog { dst:=d,op:=.load 35 x,type:=ty,pos:=pos,after:=af,guard:=g } a w K Q=K (a.put d (inOfR w (a.eval x))) w:=by
 obtain⟨u,hu⟩:=h
 rw[(inR_of hu).2]
 unfold Oper.wp execOp
 simp only[hu,Sem.run_bind,Sem.run_pure,Result.andThen_ok]
 rfl
attribute [local go_sem ↓] wp_load_inR
end Go.Proofs.YtannhfnpigiggaaGreatDoor
