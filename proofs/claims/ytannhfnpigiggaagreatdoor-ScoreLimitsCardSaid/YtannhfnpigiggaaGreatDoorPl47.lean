import Derived.Test.YtannhfnpigiggaaGreatDoorPl44
import Derived.Lib.Join
namespace Go.Proofs.YtannhfnpigiggaaGreatDoor
set_option linter.unusedSimpArgs false
set_option linter.unusedVariables false
open Go.RowKit
def OkTa(f t:TypeId)(v:Value):Prop := ∃u:Value,∀w,(Instr.typeAssert v f t true).run Tryz.prog w=.ok u w
noncomputable def taOf(f t:TypeId)(v:Value):Value:=by
 classical exact if h:OkTa f t v then h.choose else undef
theorem ta_of{f t:TypeId}{v u:Value}(h:∀w,(Instr.typeAssert v f t true).run Tryz.prog w=.ok u w):OkTa f t v/\taOf f t v=u:=by
 have hk:OkTa f t v:=⟨u,h⟩
 refine⟨hk,?_⟩
 have h2:=(h default).symm.trans (hk.choose_spec default)
 unfold taOf
 rw[dif_pos hk]
 injection h2 with h2 _
 exact h2.symm
theorem wp_ta{d:Option Tmp}{ty:TypeId}{pos:String}{af:Array Edge}{x:Operand}{f t:TypeId}{a:Act}{w:World}{K:Act->World->Prop}{Q:Exit->Act->World->Prop}{g:Option (Nat × Bool)}(h:OkTa f t (a.eval x)) :
  Oper.wp Tryz.prog { dst:=d,op:=.typeAssert x f t true,type:=ty,pos:=pos,after:=af,guard:=g } a w K Q=K (a.put d (taOf f t (a.eval x))) w:=by
 obtain⟨u,hu⟩:=h
 rw[(ta_of hu).2]
 unfold Oper.wp execOp
 simp only[hu w,Sem.run_bind,Sem.run_pure,Result.andThen_ok]
 rfl
attribute [local go_sem ↓] wp_ta
def isAnd:Cond->Bool
 | .both _=>true
 | _=>false
theorem CondIn.taE{A:Nat->Prop}{w:World}{c:Cond}{v:Value}(h:CondIn A w c v):∃u,∀w,(Instr.typeAssert v 79 155 true).run Tryz.prog w=.ok (.tuple #[u,.bool (isOr c)]) w:=by
 cases h with
 | @either l vs b off c _ _ _ _ _ _=>exact⟨.slice (some ⟨b,off,none⟩) l.length c,fun w=>by kernel_rfl⟩
 | both _ _ _ _ _ _=>exact⟨.slice none 0 0,fun w=>by kernel_rfl⟩
 | neg _=>exact⟨.slice none 0 0,fun w=>by kernel_rfl⟩
 | cmp _ _ _=>exact⟨.slice none 0 0,fun w=>by kernel_rfl⟩
 | txt _ _ _=>exact⟨.slice none 0 0,fun w=>by kernel_rfl⟩
 | auth _=>exact⟨.slice none 0 0,fun w=>by kernel_rfl⟩
 | grp _ _=>exact⟨.slice none 0 0,fun w=>by kernel_rfl⟩
theorem CondIn.taB{A:Nat->Prop}{w:World}{c:Cond}{v:Value}(h:CondIn A w c v):∃u,∀w,(Instr.typeAssert v 79 157 true).run Tryz.prog w=.ok (.tuple #[u,.bool (isAnd c)]) w:=by
 cases h with
 | @both l vs b off c _ _ _ _ _ _=>exact⟨.slice (some ⟨b,off,none⟩) l.length c,fun w=>by kernel_rfl⟩
 | either _ _ _ _ _ _=>exact⟨.slice none 0 0,fun w=>by kernel_rfl⟩
 | neg _=>exact⟨.slice none 0 0,fun w=>by kernel_rfl⟩
 | cmp _ _ _=>exact⟨.slice none 0 0,fun w=>by kernel_rfl⟩
 | txt _ _ _=>exact⟨.slice none 0 0,fun w=>by kernel_rfl⟩
 | auth _=>exact⟨.slice none 0 0,fun w=>by kernel_rfl⟩
 | grp _ _=>exact⟨.slice none 0 0,fun w=>by kernel_rfl⟩
def StP(s:Bs)(w:World)(e:Ending)(w':World):Prop:=e=.returned (.string (ofL s))/\Below w.heap.size w w'
def txC(enc:Bool)(cs:List Cond):List Bs:=cs.map fun c=>if enc&&isOr c then 40::(printF c ++ [41]) else printF c
theorem join_two(x y:Bs)(r:List Bs)(sep:Bs):Lib.join (x::y::r) sep=x++(sep++Lib.join (y::r) sep):=by
 rw[Lib.join_cons,Lib.join_cons]
 simp[Lib.joinTail]
theorem join_and:∀cs:List Cond,Lib.join (txC true cs) [32,97,110,100,32]=printAnd cs
 | []=>by rw[printAnd];rfl
 | [c]=>by
  rw[printAnd]
  show Lib.join [if true&&isOr c then _ else _] _=_
  rw[Lib.join_one,Bool.true_and]
 | c::d::r=>by
  have ih:=join_and (d::r)
  have e:printAnd (c::d::r)=(if isOr c then 40::(printF c ++ [41]) else printF c)++([32,97,110,100,32]++printAnd (d::r)):=by rw[printAnd]
  rw[e, ← ih]
  show Lib.join ((if true&&isOr c then _ else _)::_::_) _=_
  rw[join_two,Bool.true_and];rfl
theorem join_or:∀cs:List Cond,Lib.join (txC false cs) [32,111,114,32]=printOr cs
 | []=>by rw[printOr];rfl
 | [c]=>by
  rw[printOr]
  show Lib.join [if false&&isOr c then _ else _] _=_
  rw[Lib.join_one,Bool.false_and];rfl
 | c::d::r=>by
  have ih:=join_or (d::r)
  have e:printOr (c::d::r)=printF c++([32,111,114,32]++printOr (d::r)):=by rw[printOr]
  rw[e, ← ih]
  show Lib.join ((if false&&isOr c then _ else _)::_::_) _=_
  rw[join_two,Bool.false_and];rfl
theorem el_strs:Elem Tryz.prog 24 9 1 16:=Elem.of Tryz.underlying24 (z:=.string ⟨#[]⟩) (by kernel_rfl) rfl (by omega)
set_option maxHeartbeats 8000000 in
set_option maxRecDepth 100000 in
theorem sc_printList{w:World}{vs:List Value}{cs:List Cond}(A:Option Addr)(n c:Nat)(hn:cs.length=n)(hl:vs.length=cs.length)(hpos:0<cs.length)(hm:cs.length<=1000000)(hr:Row w A vs)(enc:Bool)(sep:ByteArray)(hsep:sep.size<=5)
  (hif:∀(i:Nat) (h:i<vs.length),∃T y,vs[i]=.iface T y)
  (hta:∀(i:Nat) (h1:i<vs.length) (h2:i<cs.length),∃u,∀w,(Instr.typeAssert vs[i] 79 155 true).run Tryz.prog w=.ok (.tuple #[u,.bool (isOr cs[i])]) w)
  (hpr:∀(i:Nat) (h1:i<vs.length) (h2:i<cs.length) (wx:World),Below w.heap.size w wx->Calls Tryz.prog 53 #[vs[i]] wx (StP (printF cs[i]) wx))
  (hb:∀x∈cs,(printF x).length<=3000000) (hj:(Lib.join (txC enc cs) (toL sep)).length<=100000000) :
  Calls Tryz.prog 86 #[.slice A n c,.string sep,.bool enc] w (StP (Lib.join (txC enc cs) (toL sep)) w):=by
 subst hn
 have HR:=Lib.hid hr
 have HL:=Lib.hid hl
 have HIF:=Lib.hid hif
 have HTA:=Lib.hid hta
 have HPR:=Lib.hid hpr
 have HBD:=Lib.hid hb
 have HJ:=Lib.hid hj
 clear hr hl hif hta hpr hb hj
 obtain⟨i,hi,h0,h1,h2⟩:=info_parts (show(Tryz.prog.info? 9).map (fun i=>(i.zero,i.size,i.bytes))=some (some (.string ⟨#[]⟩),1,16) from by kernel_rfl)
 obtain⟨w1,hmk,hown,hgr⟩:=run_make_own (P:=Tryz.prog) (w:=w) w.heap.size 24 9 i (.string ⟨#[]⟩) 1 Tryz.underlying24 hi h0 h1 .i64 .i64 cs.length (by rw[h2];omega) (by unfold maxLen;omega) (Nat.le_refl _)
 go_enter Tryz.func86,Tryz.ntmps86
 go_wp2_with fail
 clear hmk
 have HB1:=Lib.hid (show Below w.heap.size w w1 from(Below.refl _ _).grown hgr (Nat.le_refl _) (fun g e=>by cases e))
 have HO1:=Lib.hid hown
 clear hown hgr hi h0 h1 h2
 go_loopw [7,18] (fun v7 v18 wr=>∃k:Nat,k<=cs.length/\v18=.int .i64 (k:Int)/\wr.ownsRow w.heap.size 9 1 v7 k (strsL (txC enc (cs.take k)))/\Below w.heap.size w wr) (fun _ v18 _=>cs.length-(intOf v18).toNat)
 case atStart=>exact⟨0,by omega,rfl,HO1.out,HB1.out⟩
 case round =>
  obtain⟨k,hk,rfl,hown,hb⟩:=hrel
  have HB:=Lib.hid hb
  have hzr:=hb.size
  clear hb HB1 HO1
  obtain⟨wo,rfl⟩:∃wo:World,wo=wr:=⟨_,rfl⟩
  have k0:(0:Int)<=(k:Int):=by omega
  by_cases hlt:k<cs.length
  ·have k1:(k:Int)<(cs.length:Int):=by omega
   have hlv:k<vs.length:=by rw[HL.out];exact hlt
   obtain⟨bb,off,rfl,hbb,hcc⟩:=(HR.out.below HB.out).at (k:=k) hlv
   have c0:=hcc k (vs[k]'hlv) (by rw[List.getElem?_eq_getElem hlv])
   obtain⟨T,y,hv⟩:=HIF.out k hlv
   obtain⟨u,hu⟩:=HTA.out k hlv hlt
   have HPK:=Lib.hid (HPR.out k hlv hlt wo HB.out)
   have hbk:=HBD.out cs[k] (List.getElem_mem hlt)
   have HTK:=Lib.hid (show cs.take (k+1)=cs.take k ++ [cs[k]] from by rw[List.take_succ_eq_append_getElem hlt])
   generalize vs[k]=v at *
   generalize cs[k]=cc at *
   subst hv
   obtain⟨o1,e1⟩:=ta_of hu
   clear hcc hu
   obtain⟨S,hS⟩:∃S,ofL (printF cc)=S:=⟨_,rfl⟩
   have hSz:S.size<=3000000:=by rw[<-hS,ofL_size];exact hbk
   have HS:=Lib.hid hS
   unfold StP at HPK
   rw[hS]at HPK
   clear hS hbk
   rcases hq:(enc&&isOr cc) with _|_
   ·have HTX:=Lib.hid (show strsL (txC enc (cs.take (k+1)))=strsL (txC enc (cs.take k)) ++ [.string S] from by
     rw[HTK.out]
     show strsL ((cs.take k ++ [cc]).map _)=_
     rw[List.map_append,strsL,List.map_append,List.map_cons,List.map_nil,List.map_cons,List.map_nil,hq, ← HS.out];rfl)
    rcases hen:enc with _|_<;>rcases hor:isOr cc with _|_<;>rw[hen,hor]at hq<;>first|(exfalso;revert hq;decide)|skip
    all_goals
     rw[hor]at e1
     rw[hen]at HTX hown
     clear hor hen hq
     go_upto_region 9 with((go_at_call 53;(with_reducible refine HPK.out.mono ?_);rintro e w2 ⟨rfl,hb2⟩;have HB2:=Lib.hid hb2;clear hb2))
     have hown2:=own_below hown HB2.out
     have hz2:=Nat.le_trans hzr HB2.out.size
     go_wp2_with ((at_builtin;refine wpList_push el_strs rfl _ _ rfl hown2 #[.string S] rfl rfl rfl (by simp[Value.oneCell']) (by omega) (by unfold maxLen;omega) hz2 ?_;intro g cap w3 hown3 hg3 hat3))
     have hb3:=(HB.out.trans (HB2.out.mono hzr)).grown hg3 hz2 (fun g e=>(hown2.lt g e).1)
     go_roundw
     case rel=>exact⟨k+1,by omega,by go_num,by rw[HTX.out];exact hown3,hb3⟩
     case measure=>simp[intOf]<;>omega
   ·have HTX:=Lib.hid (show strsL (txC enc (cs.take (k+1)))=strsL (txC enc (cs.take k)) ++ [.string (((⟨#[40]⟩:ByteArray)++S)++⟨#[41]⟩)] from by
     rw[HTK.out]
     show strsL ((cs.take k ++ [cc]).map _)=_
     rw[List.map_append,strsL,List.map_append,List.map_cons,List.map_nil,List.map_cons,List.map_nil,hq, ← HS.out]
     show _ ++ [Value.string (ofL (40::(printF cc ++ [41])))]=_ ++ [Value.string ((ofL [40]++ofL (printF cc))++ofL [41])]
     rw[ofL_append,ofL_append];rfl)
    rcases hen:enc with _|_<;>rcases hor:isOr cc with _|_<;>rw[hen,hor]at hq<;>first|(exfalso;revert hq;decide)|skip
    all_goals
     rw[hor]at e1
     rw[hen]at HTX hown
     clear hor hen hq
     go_upto_region 9 with((go_at_call 53;(with_reducible refine HPK.out.mono ?_);rintro e w2 ⟨rfl,hb2⟩;have HB2:=Lib.hid hb2;clear hb2))
     have hown2:=own_below hown HB2.out
     have hz2:=Nat.le_trans hzr HB2.out.size
     generalize ((⟨#[40]⟩:ByteArray)++S)++⟨#[41]⟩=S2 at *
     go_wp2_with ((at_builtin;refine wpList_push el_strs rfl _ _ rfl hown2 #[.string S2] rfl rfl rfl (by simp[Value.oneCell']) (by omega) (by unfold maxLen;omega) hz2 ?_;intro g cap w3 hown3 hg3 hat3))
     have hb3:=(HB.out.trans (HB2.out.mono hzr)).grown hg3 hz2 (fun g e=>(hown2.lt g e).1)
     go_roundw
     case rel=>exact⟨k+1,by omega,by go_num,by rw[HTX.out];exact hown3,hb3⟩
     case measure=>simp[intOf]<;>omega
  ·have k1:(cs.length:Int)<=(k:Int):=by omega
   obtain rfl:k=cs.length:=by omega
   rw[List.take_length]at hown
   rcases own_form hown with⟨_,h0⟩|⟨g,cap,rfl,hg1,hg2,hg3,hg4⟩
   ·omega
   have hlx:(txC enc cs).length=cs.length:=by simp[txC]
   have HJN:=Tryz.strings_Join g 0 cap ((txC enc cs).map ofL) sep wo (fun j x hx=>by
    rw[Nat.zero_add]
    refine hg4 j _ ?_
    rw[strsL,List.getElem?_map]
    rw[List.getElem?_map]at hx
    cases hj:(txC enc cs)[j]? with
    | none=>rw[hj]at hx;cases hx
    | some t=>rw[hj]at hx;injection hx with hx;rw[<-hx];rfl) hg2 (by simp[hlx];omega) (by simp[hlx];omega) (by
     have:=HJ.out
     rw[List.map_map,show((fun x:ByteArray=>x.data.toList)∘ofL)=id from by funext t;rfl,List.map_id]
     show(Lib.join (txC enc cs) (toL sep)).length<=_
     omega)
   rw[List.map_map,show((fun x:ByteArray=>x.data.toList)∘ofL)=id from by funext t;rfl,List.map_id,List.length_map,hlx]at HJN
   have HJN2:=Lib.hid (show Calls Tryz.prog 112 #[.slice (some ⟨g,0,none⟩) cs.length cap,.string sep] wo (fun e w'=>e=.returned (.string (ofL (Lib.join (txC enc cs) (toL sep))))/\Below wo.heap.size wo w') from HJN)
   obtain⟨J,hJ⟩:∃J,ofL (Lib.join (txC enc cs) (toL sep))=J:=⟨_,rfl⟩
   have HJE:=Lib.hid hJ
   rw[hJ]at HJN2
   clear HJN hJ hown hlx hg1 hg2 hg3 hg4
   go_wp2_with ((go_at_call 112;(with_reducible refine HJN2.out.mono ?_);rintro e w2 ⟨rfl,hb2⟩;have HB2:=Lib.hid (HB.out.trans (hb2.mono hzr));clear hb2))
   go_ret
   exact⟨congrArg (fun x=>Ending.returned (Value.string x)) HJE.out.symm,HB2.out⟩
end Go.Proofs.YtannhfnpigiggaaGreatDoor
