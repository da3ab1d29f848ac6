import Derived.Test.YtannhfnpigiggaaGreatDoorRows
import Derived.Test.YtannhfnpigiggaaGreatDoorPl3
namespace Go.Proofs.YtannhfnpigiggaaGreatDoor
set_option linter.unusedSimpArgs false
set_option linter.unusedVariables false
open Go.RowKit
set_option maxHeartbeats 400000 in
theorem asc_isLower(c:Int)(w:World) :
  Calls Tryz.prog 102 #[.int .u8 c] w fun e w'=>e=.returned (.bool (isLower c))/\w=w':=by
 go_enter Tryz.func102,Tryz.ntmps102
 go_wp2
 all_goals (go_ret;exact⟨ret_bool (by simp[isLetter,isLower,isUpper,isDigit,isVisible,isBlank, *]<;>omega),rfl⟩)
set_option maxHeartbeats 400000 in
theorem asc_isUpper(c:Int)(w:World) :
  Calls Tryz.prog 215 #[.int .u8 c] w fun e w'=>e=.returned (.bool (isUpper c))/\w=w':=by
 go_enter Tryz.func215,Tryz.ntmps215
 go_wp2
 all_goals (go_ret;exact⟨ret_bool (by simp[isLetter,isLower,isUpper,isDigit,isVisible,isBlank, *]<;>omega),rfl⟩)
set_option maxHeartbeats 400000 in
theorem asc_isDigit(c:Int)(w:World) :
  Calls Tryz.prog 104 #[.int .u8 c] w fun e w'=>e=.returned (.bool (isDigit c))/\w=w':=by
 go_enter Tryz.func104,Tryz.ntmps104
 go_wp2
 all_goals (go_ret;exact⟨ret_bool (by simp[isLetter,isLower,isUpper,isDigit,isVisible,isBlank, *]<;>omega),rfl⟩)
set_option maxHeartbeats 400000 in
theorem asc_isBlank(c:Int)(w:World) :
  Calls Tryz.prog 47 #[.int .u8 c] w fun e w'=>e=.returned (.bool (isBlank c))/\w=w':=by
 go_enter Tryz.func47,Tryz.ntmps47
 go_wp2
 all_goals (go_ret;exact⟨ret_bool (by simp[isLetter,isLower,isUpper,isDigit,isVisible,isBlank, *]<;>omega),rfl⟩)
set_option maxHeartbeats 400000 in
theorem ref_digit(c:Int)(w:World) :
  Calls Tryz.prog 181 #[.int .u8 c] w fun e w'=>e=.returned (.bool (isDigit c))/\w=w':=by
 go_enter Tryz.func181,Tryz.ntmps181
 go_wp2
 all_goals (go_ret;exact⟨ret_bool (by simp[isLetter,isLower,isUpper,isDigit,isVisible,isBlank, *]<;>omega),rfl⟩)
structure ClassIs(f:Nat)(p:Int->Bool):Prop where
 enters:∀args w,(callFunc f args).run Tryz.prog w=.ok (.enter f args) w
 calls:∀(c:Int) (w:World),Calls Tryz.prog f #[.int .u8 c] w fun e w'=>e=.returned (.bool (p c))/\w=w'
set_option maxHeartbeats 400000 in
theorem asc_skip(f:Nat)(p:Int->Bool)(hf:ClassIs f p)(s:ByteArray)(i:Nat)(w:World)(hs:s.size<=maxLen)(hi:i<=s.size) :
  Calls Tryz.prog 46 #[.string s,.int .i64 i,.func (.func f) #[] #[]] w fun e w'=>e=.returned (.int .i64 (skipFrom p (toL s) i))/\w=w':=by
 unfold maxLen at hs
 have he:=hf.enters
 go_enter Tryz.func46,Tryz.ntmps46
 go_wp2_with fail
 go_loop [1] (fun v=>∃k:Nat,k<=s.size/\skipFrom p (toL s) i=skipFrom p (toL s) k/\v=.int .i64 k) (fun v=>s.size-(intOf v).toNat)
 case atStart=>exact⟨i,hi,rfl,rfl⟩
 case round =>
  obtain⟨k,hk,heq,rfl⟩:=hrel
  have HQ:=Lib.hid heq;clear heq
  by_cases hlt:k<s.size
  ·by_cases hp:p (num s[k])=true
   ·have H2:=Lib.hid (skipFrom_step p (toL s) k (by rw[toL_length];exact hlt) (by rw[toL_getElem _ _ hlt];exact hp))
    go_wp2_with (refine(hf.calls _ _).mono ?_;rintro e w' ⟨rfl,rfl⟩)
    go_round
    case rel=>exact⟨k+1,by omega,HQ.out.trans H2.out,by go_num⟩
    case measure=>simp[intOf]<;>omega
   ·have hp':p (num s[k])=false:=by simpa using hp
    have H2:=Lib.hid (skipFrom_stop p (toL s) k (by rw[toL_length];exact hlt) (by rw[toL_getElem _ _ hlt];exact hp'))
    clear hp
    go_wp2_with (refine(hf.calls _ _).mono ?_;rintro e w' ⟨rfl,rfl⟩)
    go_ret
    exact⟨ret_int (by rw[HQ.out,H2.out]),rfl⟩
  ·have H2:=Lib.hid (skipFrom_end p (toL s) k (by rw[toL_length];omega))
   go_wp2_with fail
   go_ret
   exact⟨ret_int (by rw[HQ.out,H2.out]),rfl⟩

def lowerB(c:UInt8):UInt8:=if isUpper (num c) then c+32 else c
def lowerL(l:List UInt8):List UInt8:=l.map lowerB
theorem lowerL_length(l:List UInt8):(lowerL l).length=l.length:=by simp[lowerL]
def lowPart(l:List UInt8)(k:Nat):List UInt8:=(l.take k).map lowerB++l.drop k
theorem lowPart_zero(l:List UInt8):lowPart l 0=l:=by simp[lowPart]
theorem lowPart_length(l:List UInt8)(k:Nat):(lowPart l k).length=l.length:=by simp[lowPart];omega
theorem lowPart_end(l:List UInt8)(k:Nat)(h:l.length<=k):lowPart l k=lowerL l:=by simp[lowPart,lowerL,List.take_of_length_le h,List.drop_eq_nil_of_le h]
theorem lowPart_at(l:List UInt8)(k:Nat)(h:k<l.length):(lowPart l k)[k]'(by rw[lowPart_length];exact h)=l[k]:=by
 simp only[lowPart]
 rw[List.getElem_append_right (by simp;omega)]
 simp[show min k l.length=k from by omega]
theorem lowPart_set(l:List UInt8)(k:Nat)(h:k<l.length):(lowPart l k).set k (lowerB l[k])=lowPart l (k+1):=by
 simp only[lowPart]
 have h1:((l.take k).map lowerB).length=k:=by simp;omega
 rw[List.set_append_right _ _ (by omega),List.take_succ_eq_append_getElem h,List.drop_eq_getElem_cons h,h1,Nat.sub_self,List.set_cons_zero,List.map_append,List.append_assoc]
 rfl
theorem lowPart_same(l:List UInt8)(k:Nat)(h:k<l.length)(hu:isUpper (num l[k])=false):lowPart l k=lowPart l (k+1):=by
 rw[<-lowPart_set l k h]
 have h1:=List.set_getElem_self (h:=show k<(lowPart l k).length by rw[lowPart_length];exact h)
 rw[lowPart_at l k h]at h1
 rw[lowerB,if_neg (by simp[hu])];exact h1.symm
theorem lowerB_num{c:UInt8}(h:isUpper (num c)=true):num (lowerB c)=num c+32:=by
 rw[lowerB,if_pos h]
 simp[isUpper]at h
 have h1:c.toNat<=90:=by simp[num]at h;omega
 have:(c+32).toNat = c.toNat + 32:=by rw[UInt8.toNat_add];simp;omega
 simp[num,this]
def LowAt(s:ByteArray)(w wr:World)(k:Nat):Prop:=BytesAt wr w.heap.size (lowPart (toL s) k)/\Below w.heap.size w wr
set_option maxHeartbeats 1000000 in
set_option maxRecDepth 100000 in
theorem asc_lower(s:ByteArray)(w:World)(hs:s.size<=maxLen) :
  Calls Tryz.prog 214 #[.string s] w fun e w'=>e=.returned (.string (ofL (lowerL (toL s))))/\Below w.heap.size w w':=by
 unfold maxLen at hs
 have hconv:=Lib.run_convert_string_bytes (P:=Tryz.prog) w 9 50 5 s Tryz.underlying9 Tryz.underlying50 Tryz.underlying5
 have hst:LowAt s w (Lib.bytesWorld w 5 s) 0:=⟨by rw[lowPart_zero];exact bytesAt_new _ _ _,bytesWorld_below w 5 s⟩
 generalize Lib.bytesWorld w 5 s=w1 at hconv hst
 generalize grownCap w s.size 0 5=cap at hconv
 go_enter Tryz.func214,Tryz.ntmps214
 go_wp2_with fail
 clear hconv
 go_loopw [10,4] (fun v _ wr=>∃k:Nat,k<=s.size/\v=.int .i64 k/\LowAt s w wr k) (fun v _ _=>s.size-(intOf v).toNat)
 case atStart=>exact⟨0,by omega,rfl,hst⟩
 case round =>
  obtain⟨k,hk,rfl,hB,hbel⟩:=hrel
  by_cases hlt:k<s.size
  ·have hlt':k<(toL s).length:=by rw[toL_length];exact hlt
   have hc:=hB.cells k (by rw[lowPart_length];exact hlt')
   have hf:=hB.free k (by rw[lowPart_length];exact hlt')
   rw[lowPart_at _ _ hlt']at hc
   rcases hu:isUpper (num (toL s)[k]) with _|_
   ·have HN:=Lib.hid (lowPart_same _ _ hlt' hu)
    generalize (toL s)[k]=c at *
    go_wp2_with (go_at_call 215;refine(asc_isUpper _ _).mono ?_;rintro e w' ⟨rfl,rfl⟩)
    go_roundw
    case rel=>exact⟨k+1,by omega,by go_num,⟨by rw[<-HN.out];exact hB,hbel⟩⟩
    case measure=>simp[intOf]<;>omega
   ·have HN:=Lib.hid (lowPart_set _ _ hlt')
    generalize (toL s)[k]=c at *
    have HB:=Lib.hid (hB.set k (lowerB c))
    rw[HN.out]at HB
    have HL:=Lib.hid (lowerB_num hu)
    have hcu:num c<=90:=by simp[isUpper]at hu;omega
    have hcl:65<=num c:=by simp[isUpper]at hu;omega
    go_wp2_with (go_at_call 215;refine(asc_isUpper _ _).mono ?_;rintro e w' ⟨rfl,rfl⟩)
    go_roundw
    case rel =>
     refine⟨k+1,by omega,by go_num,⟨?_,hbel.setCell (p:=⟨w.heap.size,k,none⟩) (Nat.le_refl _) _⟩⟩
     have:=HB.out
     simp only[Go.Proofs.YtannhfnpigiggaaGreatDoor.u8,HL.out]at this
     exact this
    case measure=>simp[intOf]<;>omega
  ·have hk':k=s.size:=by omega
   subst hk'
   have hcv:=run_convert_bytes_back (P:=Tryz.prog) wr 50 9 5 ⟨w.heap.size,0,none⟩ cap (lowPart (toL s) s.size) Tryz.underlying50 Tryz.underlying5 Tryz.underlying9 (fun j hj=>by have:=hB.cells j hj;rw[Addr.add];split<;>simp_all)
   rw[lowPart_length,toL_length,lowPart_end _ _ (by rw[toL_length];omega)]at hcv
   go_wp2_with fail
   go_ret
   exact⟨rfl,hbel⟩
def foldEq(a b:List UInt8):Bool:=decide (lowerL a=lowerL b)
set_option maxHeartbeats 1000000 in
set_option maxRecDepth 100000 in
theorem asc_equalFold(a b:ByteArray)(w:World)(ha:a.size<=maxLen)(hb:b.size<=maxLen) :
  Calls Tryz.prog 212 #[.string a,.string b] w fun e w'=>e=.returned (.bool (foldEq (toL a) (toL b)))/\Below w.heap.size w w':=by
 go_enter Tryz.func212,Tryz.ntmps212
 go_wp2_with fail
 (with_reducible refine(asc_lower a _ ha).mono ?_)
 rintro e w1 ⟨rfl,hb1⟩
 go_wp2_with fail
 (with_reducible refine(asc_lower b _ hb).mono ?_)
 rintro e w2 ⟨rfl,hb2⟩
 go_wp2_with fail
 go_ret
 refine⟨ret_bool ?_,hb1.trans (hb2.mono hb1.size)⟩
 rw[beq_toList,toL_ofL,toL_ofL];rfl
end Go.Proofs.YtannhfnpigiggaaGreatDoor
