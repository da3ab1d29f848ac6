import Derived.Test.YtannhfnpigiggaaGreatDoorPt30
import Derived.Test.YtannhfnpigiggaaGreatDoorPt44
namespace Go.Proofs.YtannhfnpigiggaaGreatDoor
set_option linter.unusedSimpArgs false
set_option linter.unusedVariables false
open Go.RowKit
set_option maxHeartbeats 4000000 in
set_option maxRecDepth 100000 in
theorem rf_compare{op:Bs}(ho:op∈cmpOps)(a b:Int)(w:World):Calls Tryz.prog 65 #[.int .i64 a,.string (ofL op),.int .i64 b] w fun e w'=>e=.returned (.bool (cmpS a op b))/\w=w':=by
 obtain⟨OS,hOS⟩:∃OS,ofL op=OS:=⟨_,rfl⟩
 have E1:=Lib.hid (act_eq op [61])
 have E2:=Lib.hid (act_eq op [33,61])
 have E3:=Lib.hid (act_eq op [60])
 have E4:=Lib.hid (act_eq op [60,61])
 have E5:=Lib.hid (act_eq op [62])
 rw[hOS]
 rw[hOS]at E1 E2 E3 E4 E5
 clear hOS
 obtain⟨Q,hQ⟩:∃Q,cmpS a op b=Q:=⟨_,rfl⟩
 have HQ:=Lib.hid hQ
 rw[hQ]
 clear hQ
 simp only[cmpOps,List.mem_cons,List.not_mem_nil,or_false]at ho
 go_enter Tryz.func65,Tryz.ntmps65
 rcases ho with rfl|rfl|rfl|rfl|rfl|rfl
 all_goals
  first|(have f1:(OS.toList == [61])=true:=(by rw[E1.out];decide))|(have f1:(OS.toList == [61])=false:=(by rw[E1.out];decide))
  first|(have f2:(OS.toList == [33,61])=true:=(by rw[E2.out];decide))|(have f2:(OS.toList == [33,61])=false:=(by rw[E2.out];decide))
  first|(have f3:(OS.toList == [60])=true:=(by rw[E3.out];decide))|(have f3:(OS.toList == [60])=false:=(by rw[E3.out];decide))
  first|(have f4:(OS.toList == [60,61])=true:=(by rw[E4.out];decide))|(have f4:(OS.toList == [60,61])=false:=(by rw[E4.out];decide))
  first|(have f5:(OS.toList == [62])=true:=(by rw[E5.out];decide))|(have f5:(OS.toList == [62])=false:=(by rw[E5.out];decide))
  go_wp2_with fail
  go_ret
  refine⟨ret_bool ?_,rfl⟩
  rw[<-HQ.out,Bool.eq_iff_iff]
  simp[cmpS]
theorem inL_drop:∀(s p:Bs) (i:Nat),i<=s.length->(∀j,j<i->p.isPrefixOf (s.drop j)=false)->inL s p=inL (s.drop i) p
 | s,p,0,_,_=>rfl
 | [],p,i+1,h,_=>by simp at h
 | c::r,p,i+1,h,hj=>by
  have h0:=hj 0 (by omega)
  rw[List.drop_zero]at h0
  rw[List.drop_succ_cons, ← inL_drop r p i (by simpa using h) (fun j hj'=>by have:=hj (j+1) (by omega);rwa [List.drop_succ_cons]at this)]
  conv=>lhs;unfold inL
  rw[h0,Bool.false_or]
theorem inL_short:∀(s p:Bs),s.length<p.length->inL s p=false
 | [],p,h=>by cases p with
  | nil=>simp at h
  | cons c q=>rfl
 | c::r,p,h=>by
  unfold inL
  rw[inL_short r p (by simp at h;omega),Bool.or_false]
  cases hq:p.isPrefixOf (c::r) with
  | false=>rfl
  | true =>
   have:=(List.isPrefixOf_iff_prefix.1 hq).length_le
   omega
theorem inL_hit{s p:Bs}(h:p.isPrefixOf s=true):inL s p=true:=by
 cases s with
 | nil =>
  cases p with
  | nil=>rfl
  | cons c q=>cases h
 | cons c r=>unfold inL;rw[h,Bool.true_or]
theorem cut_prefix(x y:ByteArray)(i:Nat)(h:i+y.size<=x.size):((x.extract i (i+y.size)).toList==y.toList)=(toL y).isPrefixOf ((toL x).drop i):=by
 have e:(x.extract i (i+y.size)).toList=((toL x).drop i).take y.size:=by
  rw[ByteArray.toList_eq]
  show toL _=_
  rw[extract_toL];unfold cutL
  rw[Nat.add_sub_cancel_left]
 rw[e,ByteArray.toList_eq,Bool.eq_iff_iff,beq_iff_eq,List.isPrefixOf_iff_prefix,List.prefix_iff_eq_take,toL_length]
 exact⟨fun h=>h.symm,fun h=>h.symm⟩
set_option maxHeartbeats 4000000 in
set_option maxRecDepth 100000 in
theorem rf_index(a b:ByteArray)(w:World)(ha:a.size<=1000000)(hb:b.size<=1000000) :
  Calls Tryz.prog 70 #[.string a,.string b] w fun e w'=>(∃i:Int,e=.returned (.int .i64 i)/\decide (0<=i)=inL (lowerL (toL a)) (lowerL (toL b)))/\Below w.heap.size w w':=by
 have HA:=Lib.hid (ref_lower a w (by unfold maxLen;omega))
 have HB:=Lib.hid (fun wx=>ref_lower b wx (by unfold maxLen;omega))
 obtain⟨LA,hLA⟩:∃LA,ofL (lowerL (toL a))=LA:=⟨_,rfl⟩
 obtain⟨LB,hLB⟩:∃LB,ofL (lowerL (toL b))=LB:=⟨_,rfl⟩
 have HLA:=Lib.hid (show lowerL (toL a)=toL LA from by rw[<-hLA,toL_ofL])
 have HLB:=Lib.hid (show lowerL (toL b)=toL LB from by rw[<-hLB,toL_ofL])
 have hza:LA.size<=1000000:=by rw[<-hLA,ofL_size,lowerL_length,toL_length];exact ha
 have hzb:LB.size<=1000000:=by rw[<-hLB,ofL_size,lowerL_length,toL_length];exact hb
 rw[hLA]at HA
 rw[hLB]at HB
 rw[HLA.out,HLB.out]
 clear hLA hLB
 obtain⟨R,hR⟩:∃R,inL (toL LA) (toL LB)=R:=⟨_,rfl⟩
 have HR:=Lib.hid hR
 have HLL:=Lib.hid (toL_length LA)
 have HLM:=Lib.hid (toL_length LB)
 rw[hR]
 clear hR
 go_enter Tryz.func70,Tryz.ntmps70
 go_upto_region 2 with(first
  | (go_at_call 69;(with_reducible refine HA.out.mono ?_);rintro e w1 ⟨rfl,hb1⟩;have HB1:=Lib.hid hb1;clear hb1)
  | (go_at_call 69;(with_reducible refine(HB.out _).mono ?_);rintro e w2 ⟨rfl,hb2⟩;have HB2:=Lib.hid (HB1.out.trans (hb2.mono HB1.out.size));clear hb2))
 go_wp2_with fail
 go_loop [7] (fun v=>∃i:Nat,i<=LA.size+1/\v=.int .i64 (i:Int)/\∀j,j<i->(toL LB).isPrefixOf ((toL LA).drop j)=false) (fun v=>LA.size+1-(intOf v).toNat)
 case atStart=>exact⟨0,by omega,rfl,fun j hj=>by omega⟩
 case round =>
  obtain⟨i,hi,rfl,hj⟩:=hrel
  have HJ:=Lib.hid hj
  clear hj
  have i0:(0:Int)<=(i:Int):=by omega
  by_cases hlt:i+LB.size<=LA.size
  ·have i1:decide (i+LB.size<=LA.size)=true:=decide_eq_true hlt
   have i2:(i:Int)+(LB.size:Int)<=(LA.size:Int):=by omega
   have hcut:=cut_prefix LA LB i hlt
   obtain⟨X,hX⟩:∃X,LA.extract i (i+LB.size)=X:=⟨_,rfl⟩
   rw[hX]at hcut
   have HX:=Lib.hid hX
   rcases hq:(X.toList==LB.toList) with _|_
   ·have HQ:=Lib.hid (hcut.symm.trans hq)
    clear hcut
    have hX2:=hX
    go_wp2_with fail
    go_round
    case rel=>exact⟨i+1,by omega,by go_num,fun j hj=>by
     rcases Nat.lt_or_ge j i with h|h
     ·exact HJ.out j h
     ·obtain rfl:j=i:=by omega
      exact HQ.out⟩
    case measure=>simp[intOf]<;>omega
   ·have HQ:=Lib.hid (hcut.symm.trans hq)
    clear hcut
    go_wp2_with fail
    go_ret
    exact⟨⟨(i:Int),rfl,by rw[<-HR.out,inL_drop _ _ i (by rw[HLL.out];omega) HJ.out,inL_hit HQ.out];exact decide_eq_true i0⟩,HB2.out⟩
  ·have i1:decide (i+LB.size<=LA.size)=false:=decide_eq_false hlt
   have i2:¬ (i:Int)+(LB.size:Int)<=(LA.size:Int):=by omega
   go_wp2_with fail
   go_ret
   refine⟨⟨-1,rfl,?_⟩,HB2.out⟩
   rw[<-HR.out]
   rcases Nat.lt_or_ge LA.size i with h|h
   ·obtain rfl:i=LA.size+1:=by omega
    rw[inL_drop _ _ LA.size (by rw[HLL.out];exact Nat.le_refl _) (fun j hj=>HJ.out j (by omega)),inL_short]
    ·rfl
    ·have h3:=HJ.out LA.size (by omega)
     rw[List.drop_eq_nil_of_le (by rw[HLL.out];exact Nat.le_refl _)]at h3⊢
     cases hb:toL LB with
     | nil=>rw[hb]at h3;cases h3
     | cons c r=>simp
   ·rw[inL_drop _ _ i (by rw[HLL.out];exact h) HJ.out,inL_short]
    ·rfl
    ·rw[List.length_drop,HLL.out,HLM.out];omega
theorem inr_cell{w:World}{IC:Array Value}{b i:Nat}{v:Value}(h:w.heap[b]?=some (.cells IC 35 (0,0)))(hi:IC[i]?=some v):w.cell? ⟨b,i,none⟩=some v:=by
 rw[Lib.cell_of_heap h];exact hi
structure HoX(w:World)(cs IC:Array Value)(W:World):Prop where
 box:W.heap[w.heap.size]?=some (.cells cs 57 (0,0))
 ibox:W.heap[w.heap.size+1]?=some (.cells IC 35 (0,0))
 bel:Below w.heap.size w W
theorem HoX.start(w:World)(cs IC:Array Value):HoX w cs IC ((w.alloc (.cells cs 57)).alloc (.cells IC 35)):=by
 obtain⟨q0,q1,q2,_⟩:=two_new w (.cells cs 57) (.cells IC 35)
 exact⟨q0,q1,q2⟩
theorem HoX.drew{w W:World}{cs IC:Array Value}(h:HoX w cs IC W):HoX w cs IC W.drew:=⟨h.box,h.ibox,h.bel.drew⟩
set_option maxHeartbeats 4000000 in
set_option maxRecDepth 100000 in
theorem rf_h_cmp{x:InS}{IC:Array Value}{A:Option Addr}{gc:Nat}(h:InV x IC A gc){f op:Bs}{n:Nat}(hf:f∈numFs)(ho:op∈cmpOps)(w:World) :
  Calls Tryz.prog 40 #[.agg (xC 116 (.slice none 0 0) (ofL f) (ofL op) (n:Int) ⟨#[]⟩),.agg IC] w (HoP (cmpS (numOf f x) op n) w):=by
 obtain⟨FS,hFS⟩:∃FS,ofL f=FS:=⟨_,rfl⟩
 obtain⟨OS,hOS⟩:∃OS,ofL op=OS:=⟨_,rfl⟩
 have E0:=Lib.hid (act_eq f [97,103,101])
 have E1:=Lib.hid (act_eq f [98,121,116,101,115])
 have E2:=Lib.hid (act_eq f [108,105,110,101,115])
 have E3:=Lib.hid (act_eq f [100,101,112,116,104])
 have E4:=Lib.hid (act_eq f [97,110,115,119,101,114,115])
 have HC:=Lib.hid (fun a wx=>rf_compare ho a n wx)
 rw[hOS]at HC
 rw[hFS,hOS]
 rw[hFS]at E0 E1 E2 E3 E4
 have HI:=Lib.hid h
 have HX:=Lib.hid (HoX.start w (xC 116 (.slice none 0 0) FS OS (n:Int) ⟨#[]⟩) IC)
 clear h hFS hOS ho
 go_enter Tryz.func40,Tryz.ntmps40
 go_upto_region 1 with fail
 generalize (w.alloc (.cells (xC 116 (.slice none 0 0) FS OS (n:Int) ⟨#[]⟩) 57)).alloc (.cells IC 35)=W at *
 obtain⟨x0,x1,x2,x3,x4,x5,xf,xw⟩:=xBox_cells HX.out.box
 have c20:=inr_cell HX.out.ibox HI.out.c20
 have c21:=inr_cell HX.out.ibox HI.out.c21
 have c22:=inr_cell HX.out.ibox HI.out.c22
 have c23:=inr_cell HX.out.ibox HI.out.c23
 have c24:=inr_cell HX.out.ibox HI.out.c24
 have hz:w.heap.size+1<W.heap.size:=heap_lt HX.out.ibox
 have HB:=Lib.hid HX.out.bel
 clear HI HX
 simp only[numFs,List.mem_cons,List.not_mem_nil,or_false]at hf
 rcases hf with rfl|rfl|rfl|rfl|rfl
 all_goals
  first|(have f0:(FS.toList == [97,103,101])=true:=(by rw[E0.out];decide))|(have f0:(FS.toList == [97,103,101])=false:=(by rw[E0.out];decide))
  first|(have f1:(FS.toList == [98,121,116,101,115])=true:=(by rw[E1.out];decide))|(have f1:(FS.toList == [98,121,116,101,115])=false:=(by rw[E1.out];decide))
  first|(have f2:(FS.toList == [108,105,110,101,115])=true:=(by rw[E2.out];decide))|(have f2:(FS.toList == [108,105,110,101,115])=false:=(by rw[E2.out];decide))
  first|(have f3:(FS.toList == [100,101,112,116,104])=true:=(by rw[E3.out];decide))|(have f3:(FS.toList == [100,101,112,116,104])=false:=(by rw[E3.out];decide))
  first|(have f4:(FS.toList == [97,110,115,119,101,114,115])=true:=(by rw[E4.out];decide))|(have f4:(FS.toList == [97,110,115,119,101,114,115])=false:=(by rw[E4.out];decide))
  go_wp2_with (go_at_call 65;(with_reducible refine(HC.out _ _).mono ?_);rintro e w2 ⟨rfl,rfl⟩)
  go_ret
  exact⟨rfl,HB.out⟩
abbrev XtP(W:World)(b:Nat)(TS:ByteArray)(wx:World):Prop:=wx.cell? ⟨b,5,none⟩=some (.string TS)/\Below W.heap.size W wx
theorem XtP.later{W wx wy:World}{b:Nat}{TS:ByteArray}(h:XtP W b TS wx)(hb:Below wx.heap.size wx wy)(hz:b<W.heap.size):XtP W b TS wy :=
 ⟨(hb.cell (p:=⟨b,5,none⟩) (Nat.lt_of_lt_of_le hz h.2.size)).trans h.1,h.2.trans (hb.mono h.2.size)⟩
set_option maxHeartbeats 8000000 in
set_option maxRecDepth 100000 in
theorem rf_h_is{x:InS}{IC:Array Value}{A:Option Addr}{gc:Nat}(h:InV x IC A gc){f t:Bs}(hf:f∈txtFs)(ht:t.length<=1000000)(w:World) :
  Calls Tryz.prog 40 #[.agg (xC 116 (.slice none 0 0) (ofL f) (ofL wIs) 0 (ofL t)),.agg IC] w (HoP (txtS wIs (txtOf f x) t) w):=by
 have hxs:(txtOf f x).length<=1000000:=by
  have h0:=h.s0;have h1:=h.s1;have h2:=h.s2
  unfold txtOf
  split
  ·exact h0
  ·split
   ·exact h1
   ·exact h2
 obtain⟨FS,hFS⟩:∃FS,ofL f=FS:=⟨_,rfl⟩
 obtain⟨MS,hMS⟩:∃MS,ofL wIs=MS:=⟨_,rfl⟩
 obtain⟨TS,hTS⟩:∃TS,ofL t=TS:=⟨_,rfl⟩
 obtain⟨XS,hXS⟩:∃XS,ofL (txtOf f x)=XS:=⟨_,rfl⟩
 have E0:=Lib.hid (act_eq f [97,103,101])
 have E1:=Lib.hid (act_eq f [98,121,116,101,115])
 have E2:=Lib.hid (act_eq f [108,105,110,101,115])
 have E3:=Lib.hid (act_eq f [100,101,112,116,104])
 have E4:=Lib.hid (act_eq f [97,110,115,119,101,114,115])
 have E5:=Lib.hid (act_eq f [97,117,116,104,111,114])
 have E6:=Lib.hid (act_eq f [103,114,111,117,112])
 have E7:=Lib.hid (act_eq f [110,97,109,101])
 have E8:=Lib.hid (act_eq f [115,117,98,106,101,99,116])
 have E9:=Lib.hid (act_eq f [98,111,100,121])
 have M1:=Lib.hid (act_eq wIs wIs)
 have M2:=Lib.hid (act_eq wIs wHas)
 rw[hMS]at M1 M2
 have HT:=Lib.hid (show toL TS=t from by rw[<-hTS,toL_ofL])
 have HX1:=Lib.hid (show toL XS=txtOf f x from by rw[<-hXS,toL_ofL])
 have hts:TS.size<=1000000:=by rw[<-hTS,ofL_size];exact ht
 have hxz:XS.size<=1000000:=by rw[<-hXS,ofL_size];exact hxs
 rw[hFS,hMS,hTS, ← HX1.out, ← HT.out]
 rw[hFS]at E0 E1 E2 E3 E4 E5 E6 E7 E8 E9
 have m1:(MS.toList == [105,115])=true:=M1.out.trans (by decide)
 have m2:(MS.toList == [104,97,115])=false:=M2.out.trans (by decide)
 have HX:=Lib.hid (HoX.start w (xC 116 (.slice none 0 0) FS MS 0 TS) IC)
 have HC0:=Lib.hid (show f=wName/\IC[0]?=some (.string XS)\/f=wSubject/\IC[1]?=some (.string XS)\/f=wBody/\IC[2]?=some (.string XS) from by
  simp only[txtFs,List.mem_cons,List.not_mem_nil,or_false]at hf
  rcases hf with rfl|rfl|rfl
  ·exact .inl ⟨rfl,by rw[<-hXS];exact h.c0⟩
  ·exact .inr (.inl ⟨rfl,by rw[<-hXS];exact h.c1⟩)
  ·exact .inr (.inr ⟨rfl,by rw[<-hXS];exact h.c2⟩))
 have HLX:=Lib.hid (fun wx=>ref_lower XS wx (by unfold maxLen;omega))
 have HLT:=Lib.hid (fun wx=>ref_lower TS wx (by unfold maxLen;omega))
 have HV:=Lib.hid (show((ofL (lowerL (toL XS))).toList==(ofL (lowerL (toL TS))).toList)=txtS wIs (toL XS) (toL TS) from by
  rw[ByteArray.toList_eq,ByteArray.toList_eq,Bool.eq_iff_iff,beq_iff_eq]
  show lowerL (toL XS)=lowerL (toL TS)↔txtS wIs (toL XS) (toL TS)=true
  simp[txtS,foldEq])
 generalize ofL (lowerL (toL XS))=LX at *
 generalize ofL (lowerL (toL TS))=LT at *
 generalize txtS wIs (toL XS) (toL TS)=q at *
 clear h hFS hMS hTS hXS hxs ht HT HX1 hf
 go_enter Tryz.func40,Tryz.ntmps40
 go_upto_region 1 with fail
 generalize (w.alloc (.cells (xC 116 (.slice none 0 0) FS MS 0 TS) 57)).alloc (.cells IC 35)=W at *
 obtain⟨x0,x1,x2,x3,x4,x5,xf,xw⟩:=xBox_cells HX.out.box
 have HB:=Lib.hid HX.out.bel
 have HCI:=Lib.hid (fun i v (hv:IC[i]?=some v)=>inr_cell (w:=W) (b:=w.heap.size+1) HX.out.ibox hv)
 have hz:w.heap.size+1<W.heap.size:=heap_lt HX.out.ibox
 clear HX
 rcases HC0.out with⟨rfl,hc⟩|⟨rfl,hc⟩|⟨rfl,hc⟩
 all_goals
  have c0:=HCI.out _ _ hc
  first|(have f0:(FS.toList == [97,103,101])=true:=(by rw[E0.out];decide))|(have f0:(FS.toList == [97,103,101])=false:=(by rw[E0.out];decide))
  first|(have f1:(FS.toList == [98,121,116,101,115])=true:=(by rw[E1.out];decide))|(have f1:(FS.toList == [98,121,116,101,115])=false:=(by rw[E1.out];decide))
  first|(have f2:(FS.toList == [108,105,110,101,115])=true:=(by rw[E2.out];decide))|(have f2:(FS.toList == [108,105,110,101,115])=false:=(by rw[E2.out];decide))
  first|(have f3:(FS.toList == [100,101,112,116,104])=true:=(by rw[E3.out];decide))|(have f3:(FS.toList == [100,101,112,116,104])=false:=(by rw[E3.out];decide))
  first|(have f4:(FS.toList == [97,110,115,119,101,114,115])=true:=(by rw[E4.out];decide))|(have f4:(FS.toList == [97,110,115,119,101,114,115])=false:=(by rw[E4.out];decide))
  first|(have f5:(FS.toList == [97,117,116,104,111,114])=true:=(by rw[E5.out];decide))|(have f5:(FS.toList == [97,117,116,104,111,114])=false:=(by rw[E5.out];decide))
  first|(have f6:(FS.toList == [103,114,111,117,112])=true:=(by rw[E6.out];decide))|(have f6:(FS.toList == [103,114,111,117,112])=false:=(by rw[E6.out];decide))
  first|(have f7:(FS.toList == [110,97,109,101])=true:=(by rw[E7.out];decide))|(have f7:(FS.toList == [110,97,109,101])=false:=(by rw[E7.out];decide))
  first|(have f8:(FS.toList == [115,117,98,106,101,99,116])=true:=(by rw[E8.out];decide))|(have f8:(FS.toList == [115,117,98,106,101,99,116])=false:=(by rw[E8.out];decide))
  first|(have f9:(FS.toList == [98,111,100,121])=true:=(by rw[E9.out];decide))|(have f9:(FS.toList == [98,111,100,121])=false:=(by rw[E9.out];decide))
  clear hc HCI HC0
  go_upto_region 42 with fail
  have HK:=Lib.hid (show XtP W w.heap.size TS W.drew from⟨x5,(Below.refl _ _).drew⟩)
  go_region_held3 (fun w'=>w'.cell? ⟨w.heap.size,5,none⟩=some (.string TS)/\Below W.heap.size W w')
   (first|exact HK.out|exact XtP.later (by assumption) hb4 (by omega)|exact XtP.later (by assumption) hb5 (by omega))
   (first|(go_at_call 69;(with_reducible refine(HLX.out _).mono ?_);rintro e w4 ⟨rfl,hb4⟩)|(go_at_call 69;(with_reducible refine(HLT.out _).mono ?_);rintro e w5 ⟨rfl,hb5⟩))
  rename_i hS
  go_wp2_with fail
  go_ret
  exact⟨ret_bool HV.out,HB.out.trans (hS.2.mono HB.out.size)⟩
set_option maxHeartbeats 8000000 in
set_option maxRecDepth 100000 in
theorem rf_h_has{x:InS}{IC:Array Value}{A:Option Addr}{gc:Nat}(h:InV x IC A gc){f t:Bs}(hf:f∈txtFs)(ht:t.length<=1000000)(w:World) :
  Calls Tryz.prog 40 #[.agg (xC 116 (.slice none 0 0) (ofL f) (ofL wHas) 0 (ofL t)),.agg IC] w (HoP (txtS wHas (txtOf f x) t) w):=by
 have hxs:(txtOf f x).length<=1000000:=by
  have h0:=h.s0;have h1:=h.s1;have h2:=h.s2
  unfold txtOf
  split
  ·exact h0
  ·split
   ·exact h1
   ·exact h2
 obtain⟨FS,hFS⟩:∃FS,ofL f=FS:=⟨_,rfl⟩
 obtain⟨MS,hMS⟩:∃MS,ofL wHas=MS:=⟨_,rfl⟩
 obtain⟨TS,hTS⟩:∃TS,ofL t=TS:=⟨_,rfl⟩
 obtain⟨XS,hXS⟩:∃XS,ofL (txtOf f x)=XS:=⟨_,rfl⟩
 have E0:=Lib.hid (act_eq f [97,103,101])
 have E1:=Lib.hid (act_eq f [98,121,116,101,115])
 have E2:=Lib.hid (act_eq f [108,105,110,101,115])
 have E3:=Lib.hid (act_eq f [100,101,112,116,104])
 have E4:=Lib.hid (act_eq f [97,110,115,119,101,114,115])
 have E5:=Lib.hid (act_eq f [97,117,116,104,111,114])
 have E6:=Lib.hid (act_eq f [103,114,111,117,112])
 have E7:=Lib.hid (act_eq f [110,97,109,101])
 have E8:=Lib.hid (act_eq f [115,117,98,106,101,99,116])
 have E9:=Lib.hid (act_eq f [98,111,100,121])
 have M1:=Lib.hid (act_eq wHas wIs)
 have M2:=Lib.hid (act_eq wHas wHas)
 rw[hMS]at M1 M2
 have HT:=Lib.hid (show toL TS=t from by rw[<-hTS,toL_ofL])
 have HX1:=Lib.hid (show toL XS=txtOf f x from by rw[<-hXS,toL_ofL])
 have hts:TS.size<=1000000:=by rw[<-hTS,ofL_size];exact ht
 have hxz:XS.size<=1000000:=by rw[<-hXS,ofL_size];exact hxs
 rw[hFS,hMS,hTS, ← HX1.out, ← HT.out]
 rw[hFS]at E0 E1 E2 E3 E4 E5 E6 E7 E8 E9
 have m1:(MS.toList == [105,115])=false:=M1.out.trans (by decide)
 have m2:(MS.toList == [104,97,115])=true:=M2.out.trans (by decide)
 have HX:=Lib.hid (HoX.start w (xC 116 (.slice none 0 0) FS MS 0 TS) IC)
 have HC0:=Lib.hid (show f=wName/\IC[0]?=some (.string XS)\/f=wSubject/\IC[1]?=some (.string XS)\/f=wBody/\IC[2]?=some (.string XS) from by
  simp only[txtFs,List.mem_cons,List.not_mem_nil,or_false]at hf
  rcases hf with rfl|rfl|rfl
  ·exact .inl ⟨rfl,by rw[<-hXS];exact h.c0⟩
  ·exact .inr (.inl ⟨rfl,by rw[<-hXS];exact h.c1⟩)
  ·exact .inr (.inr ⟨rfl,by rw[<-hXS];exact h.c2⟩))
 have HIX:=Lib.hid (fun wx=>rf_index XS TS wx hxz hts)
 have HV:=Lib.hid (show txtS wHas (toL XS) (toL TS)=inL (lowerL (toL XS)) (lowerL (toL TS)) from rfl)
 generalize inL (lowerL (toL XS)) (lowerL (toL TS))=q at *
 clear h hFS hMS hTS hXS hxs ht HT HX1 hf
 go_enter Tryz.func40,Tryz.ntmps40
 go_upto_region 1 with fail
 generalize (w.alloc (.cells (xC 116 (.slice none 0 0) FS MS 0 TS) 57)).alloc (.cells IC 35)=W at *
 obtain⟨x0,x1,x2,x3,x4,x5,xf,xw⟩:=xBox_cells HX.out.box
 have HB:=Lib.hid HX.out.bel
 have HCI:=Lib.hid (fun i v (hv:IC[i]?=some v)=>inr_cell (w:=W) (b:=w.heap.size+1) HX.out.ibox hv)
 have hz:w.heap.size+1<W.heap.size:=heap_lt HX.out.ibox
 clear HX
 rcases HC0.out with⟨rfl,hc⟩|⟨rfl,hc⟩|⟨rfl,hc⟩
 all_goals
  have c0:=HCI.out _ _ hc
  first|(have f0:(FS.toList == [97,103,101])=true:=(by rw[E0.out];decide))|(have f0:(FS.toList == [97,103,101])=false:=(by rw[E0.out];decide))
  first|(have f1:(FS.toList == [98,121,116,101,115])=true:=(by rw[E1.out];decide))|(have f1:(FS.toList == [98,121,116,101,115])=false:=(by rw[E1.out];decide))
  first|(have f2:(FS.toList == [108,105,110,101,115])=true:=(by rw[E2.out];decide))|(have f2:(FS.toList == [108,105,110,101,115])=false:=(by rw[E2.out];decide))
  first|(have f3:(FS.toList == [100,101,112,116,104])=true:=(by rw[E3.out];decide))|(have f3:(FS.toList == [100,101,112,116,104])=false:=(by rw[E3.out];decide))
  first|(have f4:(FS.toList == [97,110,115,119,101,114,115])=true:=(by rw[E4.out];decide))|(have f4:(FS.toList == [97,110,115,119,101,114,115])=false:=(by rw[E4.out];decide))
  first|(have f5:(FS.toList == [97,117,116,104,111,114])=true:=(by rw[E5.out];decide))|(have f5:(FS.toList == [97,117,116,104,111,114])=false:=(by rw[E5.out];decide))
  first|(have f6:(FS.toList == [103,114,111,117,112])=true:=(by rw[E6.out];decide))|(have f6:(FS.toList == [103,114,111,117,112])=false:=(by rw[E6.out];decide))
  first|(have f7:(FS.toList == [110,97,109,101])=true:=(by rw[E7.out];decide))|(have f7:(FS.toList == [110,97,109,101])=false:=(by rw[E7.out];decide))
  first|(have f8:(FS.toList == [115,117,98,106,101,99,116])=true:=(by rw[E8.out];decide))|(have f8:(FS.toList == [115,117,98,106,101,99,116])=false:=(by rw[E8.out];decide))
  first|(have f9:(FS.toList == [98,111,100,121])=true:=(by rw[E9.out];decide))|(have f9:(FS.toList == [98,111,100,121])=false:=(by rw[E9.out];decide))
  clear hc HCI HC0
  go_upto_region 44 with fail
  go_wp2_with ((go_at_call 70;(with_reducible refine(HIX.out _).mono ?_);rintro e w3 ⟨⟨i,rfl,hi⟩,hb3⟩;have HIV:=Lib.hid hi;have HB3:=Lib.hid (HB.out.trans (hb3.mono HB.out.size));clear hb3 hi))
  go_ret
  exact⟨ret_bool (HIV.out.trans HV.out.symm),HB3.out⟩
set_option maxHeartbeats 8000000 in
set_option maxRecDepth 100000 in
theorem rf_h_begins{x:InS}{IC:Array Value}{A:Option Addr}{gc:Nat}(h:InV x IC A gc){f t:Bs}(hf:f∈txtFs)(ht:t.length<=1000000)(w:World) :
  Calls Tryz.prog 40 #[.agg (xC 116 (.slice none 0 0) (ofL f) (ofL wBegins) 0 (ofL t)),.agg IC] w (HoP (txtS wBegins (txtOf f x) t) w):=by
 have hxs:(txtOf f x).length<=1000000:=by
  have h0:=h.s0;have h1:=h.s1;have h2:=h.s2
  unfold txtOf
  split
  ·exact h0
  ·split
   ·exact h1
   ·exact h2
 obtain⟨FS,hFS⟩:∃FS,ofL f=FS:=⟨_,rfl⟩
 obtain⟨MS,hMS⟩:∃MS,ofL wBegins=MS:=⟨_,rfl⟩
 obtain⟨TS,hTS⟩:∃TS,ofL t=TS:=⟨_,rfl⟩
 obtain⟨XS,hXS⟩:∃XS,ofL (txtOf f x)=XS:=⟨_,rfl⟩
 have E0:=Lib.hid (act_eq f [97,103,101])
 have E1:=Lib.hid (act_eq f [98,121,116,101,115])
 have E2:=Lib.hid (act_eq f [108,105,110,101,115])
 have E3:=Lib.hid (act_eq f [100,101,112,116,104])
 have E4:=Lib.hid (act_eq f [97,110,115,119,101,114,115])
 have E5:=Lib.hid (act_eq f [97,117,116,104,111,114])
 have E6:=Lib.hid (act_eq f [103,114,111,117,112])
 have E7:=Lib.hid (act_eq f [110,97,109,101])
 have E8:=Lib.hid (act_eq f [115,117,98,106,101,99,116])
 have E9:=Lib.hid (act_eq f [98,111,100,121])
 have M1:=Lib.hid (act_eq wBegins wIs)
 have M2:=Lib.hid (act_eq wBegins wHas)
 rw[hMS]at M1 M2
 have HT:=Lib.hid (show toL TS=t from by rw[<-hTS,toL_ofL])
 have HX1:=Lib.hid (show toL XS=txtOf f x from by rw[<-hXS,toL_ofL])
 have hts:TS.size<=1000000:=by rw[<-hTS,ofL_size];exact ht
 have hxz:XS.size<=1000000:=by rw[<-hXS,ofL_size];exact hxs
 rw[hFS,hMS,hTS, ← HX1.out, ← HT.out]
 rw[hFS]at E0 E1 E2 E3 E4 E5 E6 E7 E8 E9
 have m1:(MS.toList == [105,115])=false:=M1.out.trans (by decide)
 have m2:(MS.toList == [104,97,115])=false:=M2.out.trans (by decide)
 have HX:=Lib.hid (HoX.start w (xC 116 (.slice none 0 0) FS MS 0 TS) IC)
 have HC0:=Lib.hid (show f=wName/\IC[0]?=some (.string XS)\/f=wSubject/\IC[1]?=some (.string XS)\/f=wBody/\IC[2]?=some (.string XS) from by
  simp only[txtFs,List.mem_cons,List.not_mem_nil,or_false]at hf
  rcases hf with rfl|rfl|rfl
  ·exact .inl ⟨rfl,by rw[<-hXS];exact h.c0⟩
  ·exact .inr (.inl ⟨rfl,by rw[<-hXS];exact h.c1⟩)
  ·exact .inr (.inr ⟨rfl,by rw[<-hXS];exact h.c2⟩))
 have HL:=Lib.hid (show(toL XS).length=XS.size/\(toL TS).length=TS.size from⟨toL_length _,toL_length _⟩)
 have HV:=Lib.hid (show txtS wBegins (toL XS) (toL TS)=(decide ((toL TS).length<=(toL XS).length)&&foldEq ((toL XS).take (toL TS).length) (toL TS)) from rfl)
 rw[HL.out.1,HL.out.2]at HV
 have HLT:=Lib.hid (fun wx=>ref_lower TS wx (by unfold maxLen;omega))
 have HLX:=Lib.hid (fun wx=>ref_lower (XS.extract 0 TS.size) wx (by rw[ByteArray.size_extract];unfold maxLen;omega))
 rw[show toL (XS.extract 0 TS.size)=(toL XS).take TS.size from by rw[extract_toL];unfold cutL;simp]at HLX
 have HV2:=Lib.hid (show((ofL (lowerL ((toL XS).take TS.size))).toList==(ofL (lowerL (toL TS))).toList)=foldEq ((toL XS).take TS.size) (toL TS) from by
  rw[ByteArray.toList_eq,ByteArray.toList_eq,Bool.eq_iff_iff,beq_iff_eq]
  show lowerL ((toL XS).take TS.size)=lowerL (toL TS)↔foldEq ((toL XS).take TS.size) (toL TS)=true
  simp[foldEq])
 generalize ofL (lowerL ((toL XS).take TS.size))=LX at *
 generalize ofL (lowerL (toL TS))=LT at *
 generalize foldEq ((toL XS).take TS.size) (toL TS)=q at *
 generalize txtS wBegins (toL XS) (toL TS)=qq at *
 clear h hFS hMS hTS hXS hxs ht HT HX1 hf
 go_enter Tryz.func40,Tryz.ntmps40
 go_upto_region 1 with fail
 generalize (w.alloc (.cells (xC 116 (.slice none 0 0) FS MS 0 TS) 57)).alloc (.cells IC 35)=W at *
 obtain⟨x0,x1,x2,x3,x4,x5,xf,xw⟩:=xBox_cells HX.out.box
 have HB:=Lib.hid HX.out.bel
 have HCI:=Lib.hid (fun i v (hv:IC[i]?=some v)=>inr_cell (w:=W) (b:=w.heap.size+1) HX.out.ibox hv)
 have hz:w.heap.size+1<W.heap.size:=heap_lt HX.out.ibox
 clear HX
 rcases HC0.out with⟨rfl,hc⟩|⟨rfl,hc⟩|⟨rfl,hc⟩
 all_goals
  have c0:=HCI.out _ _ hc
  first|(have f0:(FS.toList == [97,103,101])=true:=(by rw[E0.out];decide))|(have f0:(FS.toList == [97,103,101])=false:=(by rw[E0.out];decide))
  first|(have f1:(FS.toList == [98,121,116,101,115])=true:=(by rw[E1.out];decide))|(have f1:(FS.toList == [98,121,116,101,115])=false:=(by rw[E1.out];decide))
  first|(have f2:(FS.toList == [108,105,110,101,115])=true:=(by rw[E2.out];decide))|(have f2:(FS.toList == [108,105,110,101,115])=false:=(by rw[E2.out];decide))
  first|(have f3:(FS.toList == [100,101,112,116,104])=true:=(by rw[E3.out];decide))|(have f3:(FS.toList == [100,101,112,116,104])=false:=(by rw[E3.out];decide))
  first|(have f4:(FS.toList == [97,110,115,119,101,114,115])=true:=(by rw[E4.out];decide))|(have f4:(FS.toList == [97,110,115,119,101,114,115])=false:=(by rw[E4.out];decide))
  first|(have f5:(FS.toList == [97,117,116,104,111,114])=true:=(by rw[E5.out];decide))|(have f5:(FS.toList == [97,117,116,104,111,114])=false:=(by rw[E5.out];decide))
  first|(have f6:(FS.toList == [103,114,111,117,112])=true:=(by rw[E6.out];decide))|(have f6:(FS.toList == [103,114,111,117,112])=false:=(by rw[E6.out];decide))
  first|(have f7:(FS.toList == [110,97,109,101])=true:=(by rw[E7.out];decide))|(have f7:(FS.toList == [110,97,109,101])=false:=(by rw[E7.out];decide))
  first|(have f8:(FS.toList == [115,117,98,106,101,99,116])=true:=(by rw[E8.out];decide))|(have f8:(FS.toList == [115,117,98,106,101,99,116])=false:=(by rw[E8.out];decide))
  first|(have f9:(FS.toList == [98,111,100,121])=true:=(by rw[E9.out];decide))|(have f9:(FS.toList == [98,111,100,121])=false:=(by rw[E9.out];decide))
  clear hc HCI HC0
  go_upto_region 45 with fail
  by_cases hle:TS.size<=XS.size
  ·rw[decide_eq_true hle,Bool.true_and]at HV
   have hle':decide (TS.size<=XS.size)=true:=decide_eq_true hle
   have HK:=Lib.hid (show XtP W w.heap.size TS W.drew from⟨x5,(Below.refl _ _).drew⟩)
   go_region_held3 (fun w'=>w'.cell? ⟨w.heap.size,5,none⟩=some (.string TS)/\Below W.heap.size W w')
    (first|exact HK.out|exact XtP.later (by assumption) hb4 (by omega)|exact XtP.later (by assumption) hb5 (by omega))
    (first|(go_at_call 69;(with_reducible refine(HLX.out _).mono ?_);rintro e w4 ⟨rfl,hb4⟩)|(go_at_call 69;(with_reducible refine(HLT.out _).mono ?_);rintro e w5 ⟨rfl,hb5⟩))
   rename_i hS
   go_wp2_with fail
   go_ret
   exact⟨ret_bool (HV2.out.trans HV.out.symm),HB.out.trans (hS.2.mono HB.out.size)⟩
  ·rw[decide_eq_false hle,Bool.false_and]at HV
   have hle':decide (TS.size<=XS.size)=false:=decide_eq_false hle
   go_quiet (fail)
   go_wp2_with fail
   go_ret
   exact⟨ret_bool HV.out.symm,HB.out.trans ((below_drewN (Below.refl W.heap.size W) nq).mono HB.out.size)⟩
end Go.Proofs.YtannhfnpigiggaaGreatDoor
