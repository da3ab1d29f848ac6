import Derived.Test.YtannhfnpigiggaaGreatDoorPl7
import Derived.Lib.SplitLaws
import Derived.Lib.IndexBytes
import Derived.Lib.IndexLaws
namespace Go.Proofs.YtannhfnpigiggaaGreatDoor
set_option linter.unusedSimpArgs false
set_option linter.unusedVariables false
def isNl(c:UInt8):Bool:=c==(10:UInt8)
def splitNa:Bs->Bs->List Bs
 | [],cur=>[cur]
 | c::r,cur=>if isNl c then cur::splitNa r [] else splitNa r (cur ++ [c])
def linesM(l:Bs):List Bs:=splitNa l []
theorem splitNa_run(x:Bs)(hx:∀c∈x,isNl c=false):∀cur r,splitNa (x++r) cur=splitNa r (cur++x):=by
 induction x with
 | nil=>intro cur r;simp
 | cons c x ih =>
  intro cur r
  rw[List.cons_append,splitNa,if_neg (by simp[hx c (by simp)]),ih (fun c hc=>hx c (by simp[hc]))]
  simp
def nlS:ByteArray:=⟨#[10]⟩
theorem nlS_size:nlS.size=1:=rfl
theorem indexB_nl(s:ByteArray):Lib.indexB s nlS=Lib.indexByte (toL s) 10:=by
 show Lib.index (toL s) [10]=_
 exact Lib.index_one _ _
theorem lines_none(l:Bs)(h:∀c∈l,isNl c=false):linesM l=[l]:=by
 have:=splitNa_run l h [] []
 simpa[linesM,splitNa] using this
theorem lines_some(x r:Bs)(h:∀c∈x,isNl c=false):linesM (x++10::r)=x::linesM r:=by
 unfold linesM
 rw[splitNa_run x h,splitNa,if_pos (by rfl)];simp
theorem lines_lib:∀(k:Nat) (s:ByteArray),Lib.countB s nlS=k->(Lib.splitB nlS 0 k s).map toL=linesM (toL s):=by
 intro k
 induction k with
 | zero =>
  intro s hk
  rcases Lib.indexB_cases s nlS with hix|⟨i,hix,hroom⟩
  ·rw[Lib.splitB_miss _ _ _ _ hix]
   rw[indexB_nl]at hix
   have hn:=Lib.indexByte_none hix
   rw[lines_none _ (fun c hc=>by
    obtain⟨j,hj,rfl⟩:=List.getElem_of_mem hc
    have:=hn j
    rw[List.getElem?_eq_getElem hj]at this
    unfold isNl;rw[beq_eq_false_iff_ne];intro e;rw[e]at this;exact this rfl)]
   rfl
  ·have:=Lib.countB_hit s nlS i (by decide) hix
   omega
 | succ k ih =>
  intro s hk
  rcases Lib.indexB_cases s nlS with hix|⟨i,hix,hroom⟩
  ·rw[Lib.countB_miss _ _ hix]at hk;omega
  ·have hc:=Lib.countB_hit s nlS i (by decide) hix
   rw[Lib.splitB_hit _ _ _ _ _ hix,List.map_cons,ih _ (by omega)]
   rw[indexB_nl]at hix
   obtain⟨h1,h2⟩:=Lib.indexByte_some hix
   have hil:i<(toL s).length:=by
    rcases Nat.lt_or_ge i (toL s).length with h|h
    ·exact h
    ·rw[List.getElem?_eq_none h]at h1;cases h1
   have hi46:(toL s)[i]=10:=by rw[List.getElem?_eq_getElem hil]at h1;simpa using h1
   have e:toL s=(toL s).take i++10::(toL s).drop (i+1):=by
    conv=>lhs;rw[<-List.take_append_drop i (toL s),List.drop_eq_getElem_cons hil,hi46]
   have hm:∀c∈(toL s).take i,isNl c=false:=fun c hc=>by
    obtain⟨j,hj,rfl⟩:=List.getElem_of_mem hc
    rw[List.getElem_take]
    have hj':j<i:=by rw[List.length_take]at hj;omega
    have:=h2 j hj'
    rw[List.getElem?_eq_getElem (by omega)]at this
    unfold isNl;rw[beq_eq_false_iff_ne];intro e;rw[e]at this;exact this rfl
   conv=>rhs;rw[e]
   rw[lines_some _ _ hm,extract_toL,extract_toL,nlS_size]
   congr 1
   congr 1
   unfold cutL
   rw[List.take_of_length_le]
   rw[List.length_drop,toL_length]
   exact Nat.le_refl _
theorem lines_len(s:ByteArray):Lib.countB s nlS+1=(linesM (toL s)).length:=by
 rw[<-lines_lib _ s rfl,List.length_map,Lib.splitB_all _ (by decide) _ _ _ rfl]
theorem lines_cells(s:ByteArray):(Lib.splitB nlS 0 (Lib.countB s nlS) s).map Value.string=strsL (linesM (toL s)):=by
 rw[<-lines_lib _ s rfl,strsL,List.map_map]
 apply List.map_congr_left
 intro x _
 simp[ofL_toL]
theorem splitNa_sum(l:Bs):∀cur,(splitNa l cur).length<=l.length+1/\∀x∈splitNa l cur,x.length<=cur.length+l.length:=by
 induction l with
 | nil=>intro cur;simp[splitNa]
 | cons c r ih =>
  intro cur
  rw[splitNa]
  split
  ·have:=ih []
   refine⟨by simp;omega,fun x hx=>?_⟩
   rcases List.mem_cons.1 hx with rfl|hx
   ·omega
   ·have:=this.2 x hx;simp at this⊢;omega
  ·have:=ih (cur ++ [c])
   refine⟨by simp;omega,fun x hx=>?_⟩
   have:=this.2 x hx;simp at this⊢;omega
end Go.Proofs.YtannhfnpigiggaaGreatDoor
