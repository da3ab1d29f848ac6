import Derived.Test.YtannhfnpigiggaaGreatDoorPt48
import Derived.Test.YtannhfnpigiggaaGreatDoorPt49
import Derived.Test.YtannhfnpigiggaaGreatDoorPt50
namespace Go.Proofs.YtannhfnpigiggaaGreatDoor
set_option linter.unusedSimpArgs false
set_option linter.unusedVariables false
open Go.RowKit
theorem rf_class(s:ByteArray)(k:Nat)(w:World)(hs:s.size<=1000)(hk:k<s.size):Calls Tryz.prog 94 #[.string s,.int .i64 k] w (RClassPost ((toL s).drop k) k w):=by
 by_cases h1:k+1<s.size
 ·rcases h94:(num (s[k+1]'h1)==94) with _|_
  ·exact rf_class_c s k w hs hk h1 h94
  ·exact rf_class_a s k w hs hk h1 h94
 ·exact rf_class_b s k w hs hk h1
theorem blk_one'(s:Bool)(f:Nat->Bool):∀u∈(blk s f).toArray.toList,u.oneCell'=true:=by simpa using blk_one s f
theorem RAt.push'{w wr w1:World}{s:ByteArray}{es:List Em}{v v':Value}{x:Em}{t:Bool}{f:Nat->Bool}(h:RAt w s es v wr)(hx:blk t f=eV x)(hown:w1.ownsRow (w.heap.size+2) 176 129 v' (es.length+1) (rowsE es++(blk t f).toArray.toList))(hg:wr.grownBy w1 v.ownBlock) :
  w1.cell? ⟨w.heap.size+1,1,none⟩=some v/\w1.frozen? ⟨w.heap.size+1,1,none⟩=false/\Hid (RAt w s (es ++ [x]) v' (w1.setCell ⟨w.heap.size+1,1,none⟩ v')):=by
 obtain⟨h1,h2⟩:=h.push hown (by simpa using hx) hg
 exact⟨by rw[Lib.cell_of_heap h1];rfl,Lib.frozen_of_heap h1 1,Lib.hid h2⟩
theorem wpList_storeE'{ops:Array Oper}{rest:List Oper}{op:Oper}{a:Act}{w:World}{Q:Exit->Act->World->Prop}(hgd:op.guard=none)(x y:Operand)(ho:op.op=.store 176 x y){b:Nat}{s s':Bool}{f f':Nat->Bool}(hE:EAt w b s f)(hx:a.eval x=.pointer (some ⟨b,0,none⟩))(hy:a.eval y=Value.agg (blk s' f').toArray)
  (h:∀W,Hid (W=w.setCells b 0 (blk s' f'))->wpList Tryz.prog ops Q rest (a.put op.dst undef) W):wpList Tryz.prog ops Q (op::rest) a w :=
 wpList_storeE hgd x y ho hE hx (Lib.hid rfl) hy h
theorem wpList_storePK{ops:Array Oper}{rest:List Oper}{op:Oper}{a:Act}{w:World}{Q:Exit->Act->World->Prop}(hgd:op.guard=none)(x y:Operand)(ho:op.op=.store 137 x y){b:Nat}{p q p' q':Value}{t:TypeId}(hE:w.heap[b]?=some (.cells #[p,q] t (0,0)))(hx:a.eval x=.pointer (some ⟨b,0,none⟩))(hy:a.eval y=.agg #[p',q'])(h1:p'.oneCell'=true)(h2:q'.oneCell'=true)
  (h:∀W,W.heap[b]?=some (.cells #[p',q'] t (0,0))->(∀N,N<=b->Below N w W)->(∀k,k≠b->W.heap[k]?=w.heap[k]?)->Hid (W.heap.size=w.heap.size)->wpList Tryz.prog ops Q rest (a.put op.dst undef) W):wpList Tryz.prog ops Q (op::rest) a w :=
 wpList_store_mid hgd _ x y ho b 0 #[p',q'] hx hy (there_heap hE) (size_P _ _) (by simp[h1,h2]) (h _ (set_two hE) (fun N hN=>below_setCells hN _ _ _ _ (Below.refl _ _))
  (fun k hk=>by simp only[World.setCells];rw[heap_setCell_other _ _ _ _ hk,heap_setCell_other _ _ _ _ hk]) (Lib.hid (size_setCells _ _ _ _)))
theorem RAt.cellv{w wr:World}{s:ByteArray}{es:List Em}{v:Value}(h:RAt w s es v wr):wr.cell? ⟨w.heap.size+1,1,none⟩=some v:=by rw[Lib.cell_of_heap h.heap];rfl
set_option maxHeartbeats 8000000 in
set_option maxRecDepth 100000 in
theorem rf_compile(s:ByteArray)(w:World)(hs:s.size<=1000000) :
  Calls Tryz.prog 67 #[.string s] w (RCompPost s w):=by
 have HL:=Lib.hid (toL_length s)
 by_cases h0:s.size=0
 ·have hE:s=⟨#[]⟩:=by
   apply toL_inj;rw[List.eq_nil_of_length_eq_zero (HL.out.trans h0)];rfl
  subst hE
  go_enter Tryz.func67,Tryz.ntmps67
  go_wp2_with (first|(refine wpList_allocP rfl rfl ?_;intro W1 hP1 hB1 hz1)|(refine wpList_storeP rfl _ _ rfl hP1 rfl rfl rfl rfl ?_;intro W2 hP2 hB2))
  refine bodyPost_ret (results_P rfl _ _ w.heap.size _ _ _ _ hP2 rfl rfl rfl Tryz.underlying137 rfl (size_P _ _)) rfl ?_
  exact rcomp_no (n:=0) (k:=4) (by decide +kernel) (by decide) _ rfl (hB1.trans (hB2 _ (Nat.le_refl _)))
 have hE:s.toList.isEmpty=false:=by
  rw[<-Bool.not_eq_true,List.isEmpty_iff];intro h;apply h0;rw[<-HL.out,show toL s=[] from(ByteArray.toList_eq s).symm.trans h];rfl
 by_cases h80:80<s.size
 ·have HC:=Lib.hid (show compF (toL s)=([],80,5) from by rw[compF,if_neg (by rw[HL.out];exact h0),if_pos (by rw[HL.out];exact h80)])
  go_enter Tryz.func67,Tryz.ntmps67
  go_wp2_with (first|(refine wpList_allocP rfl rfl ?_;intro W1 hP1 hB1 hz1)|(refine wpList_storeP rfl _ _ rfl hP1 rfl rfl rfl rfl ?_;intro W2 hP2 hB2))
  refine bodyPost_ret (results_P rfl _ _ w.heap.size _ _ _ _ hP2 rfl rfl rfl Tryz.underlying137 rfl (size_P _ _)) rfl ?_
  exact rcomp_no (n:=80) (k:=5) HC.out (by decide) _ rfl (hB1.trans (hB2 _ (Nat.le_refl _)))
 have HG:=Lib.hid (compF_go s h0 (by omega))
 have h80':s.size<=80:=by omega
 clear h80
 go_enter Tryz.func67,Tryz.ntmps67
 go_upto_region 5 with((refine wpList_allocP rfl rfl ?_;intro W1 hP1 hB1 hz1))
 have HP1:=Lib.hid hP1;have HB1:=Lib.hid hB1
 clear hP1 hB1
 go_upto_region 6 with(first|(refine wpList_allocP rfl rfl ?_;intro W2 hP2 hB2 hz2;have hP2':=hP2;rw[hz1]at hP2')|(refine wpList_storeP rfl _ _ rfl hP2 rfl rfl rfl rfl ?_;intro W3 hP3 hB3)|(refine wpList_storeP rfl _ _ rfl hP2' rfl rfl rfl rfl ?_;intro W3 hP3 hB3))
 have HR:=Lib.hid (show RAt w s [] (.slice none 0 0) W3 from by
  have hb3:Below (w.heap.size+1) W2 W3:=hB3 _ (by omega)
  have hP3':=hP3
  simp only[hz1]at hP3' hB2
  have h1:=HP1.out
  have h2:=(hB2.block _ (show w.heap.size<w.heap.size+1 by omega)).trans h1
  have h3:=(hb3.block _ (show w.heap.size<w.heap.size+1 by omega)).trans h2
  exact⟨h3,hP3',World.ownsRow_nil _ _ _ _,(HB1.out.trans (hB2.mono (by omega))).trans (hb3.mono (by omega))⟩)
 simp only[hz1]
 clear hP2 hP2' hP3 hB2 hB3 hz1 hz2 HP1 HB1
 go_wp2_with fail
 go_loopw [6,20] (fun v6 _ wr=>∃(k:Nat) (es:List Em) (v:Value),k<=s.size/\v6=.int .i64 k/\es.length<=k/\compF (toL s)=compGo 0 ((toL s).drop k) k es/\RAt w s es v wr) (fun v6 _ _=>s.size-(intOf v6).toNat)
 case atStart=>exact⟨0, [],.slice none 0 0,by omega,rfl,by simp,HG.out,HR.out⟩
 case round =>
  obtain⟨k,es,v,hk,rfl,hes,hgo,hC⟩:=hrel
  clear HR HG hE
  have HGO:=Lib.hid hgo;clear hgo
  obtain⟨wo,rfl⟩:∃wo:World,wo=wr:=⟨_,rfl⟩
  by_cases hlt:k<s.size
  ·have hk1:(0:Int)<=(k:Int):=by omega
   have hk2:(k:Int)<(s.size:Int):=by omega
   have HD:=Lib.hid (drop_at (byte_at s k hlt))
   rw[HD.out]at HGO
   have HC:=Lib.hid hC;clear hC
   have hb1:(es.length+1)*129<=140737488355328:=by omega
   have hb2:es.length+1<=maxLen:=by unfold maxLen;omega
   by_cases e42:s[k]'hlt=42
   ·have f42:(num (s[k]'hlt)==42)=true:=by rw[e42];rfl
    rw[e42,compGo_star]at HGO
    clear e42
    go_upto_region 11 with((refine wpList_allocE rfl rfl ?_;intro W1 hE1 hB1 hz1))
    have HX0:=Lib.hid (XAt.mk (wo:=wo) hE1 hB1)
    clear hE1 hB1 hz1
    have c0:=HX0.out.x.cell0;have c1:=HX0.out.x.frozen0
    go_upto_region 25 with fail
    have HX:=Lib.hid (HX0.out.set0 true)
    clear c0 c1 HX0
    generalize W1.setCell ⟨wo.heap.size,0,none⟩ (.bool true)=W2 at *
    have HV:=Lib.hid eV_star
    have HC1:=Lib.hid (HC.out.later HX.out.bel)
    have hEp:=HX.out.x
    have hcp:=HC1.out.cellv
    have hown:=HC1.out.own
    have hbs:=HC1.out.size
    clear HC HX
    go_wp2_with (first|(refine wpList_loadE rfl _ rfl hEp rfl ?_;intro V HVV)|(refine wpList_buildE rfl _ rfl HVV rfl ?_)|(at_builtin;refine wpList_push el_E rfl _ _ rfl hown (blk _ _).toArray rfl rfl (blk_size _ _) (blk_one' _ _) hb1 hb2 hbs ?_;intro g cap w3 hown3 hg3 hat3;obtain⟨hcz,hfz,HC3⟩:=HC1.out.push' HV.out hown3 hg3))
    go_roundw
    case rel=>exact⟨k+1,es ++ [.star],_,by omega,by go_num,by simp;omega,HGO.out,HC3.out⟩
    case measure=>simp[intOf]<;>omega
   have f42:(num (s[k]'hlt)==42)=false:=by
    have:=eq_num (s[k]'hlt) 42;rw[show num 42=42 from rfl]at this;rw[this];exact beq_eq_false_iff_ne.2 e42
   by_cases e63:s[k]'hlt=63
   ·have f63:(num (s[k]'hlt)==63)=true:=by rw[e63];rfl
    rw[e63,compGo_any]at HGO
    clear e63 e42
    go_wp2_with ((refine wpList_allocE rfl rfl ?_;intro W1 hE1 hB1 hz1))
    have HX0:=Lib.hid (XAt.mk (wo:=wo) hE1 hB1)
    clear hE1 hB1 hz1
    go_loopw [8,37] (fun v8 _ wr=>∃q:Nat,q<=128/\v8=.int .i64 (q:Int)/\XAt wo wr false (anyF q)) (fun v8 _ _=>128-(intOf v8).toNat)
    case atStart=>exact⟨0,by omega,rfl,⟨HX0.out.x.congr anyF_zero,HX0.out.bel⟩⟩
    case round =>
     obtain⟨q,hq1,rfl,hxq⟩:=hrel
     clear HX0
     have HX:=Lib.hid hxq
     obtain⟨wi,rfl⟩:∃wi:World,wi=wr:=⟨_,rfl⟩
     by_cases hq:q<128
     ·have p2:(q:Int)<128:=by omega
      have p0:(0:Int)<=(q:Int):=by omega
      have c0:=hxq.x.cell q hq
      have c1:=hxq.x.frozen q hq
      have wu:IntKind.u8.wrap (q:Int)=(q:Int):=wrap_u8 _ (by omega) (by omega)
      have HST:=Lib.hid (anyF_step q)
      clear hxq
      go_wp2_with ((go_at_call 93;(with_reducible refine(rf_char' q (by omega) _ rfl _).mono ?_);rintro e w' ⟨rfl,rfl⟩))
      go_roundw
      case rel=>first|exact⟨q+1,by omega,by go_num,HX.out.set q hq _ HST.out⟩|((repeat apply Exists.intro);exact⟨⟨q+1,by omega,by go_num,HX.out.set q hq _ HST.out⟩,rfl⟩)
      case measure=>simp[intOf]<;>omega
     ·have p2:(128:Int)<=(q:Int):=by omega
      obtain rfl:q=128:=by omega
      clear hxq
      go_upto_region 25 with fail
      have HV:=Lib.hid (eV_any anyF_all)
      have HC1:=Lib.hid (HC.out.later HX.out.bel)
      have hEp:=HX.out.x
      have hcp:=HC1.out.cellv
      have hown:=HC1.out.own
      have hbs:=HC1.out.size
      clear HC HX
      go_wp2_with (first|(refine wpList_loadE rfl _ rfl hEp rfl ?_;intro V HVV)|(refine wpList_buildE rfl _ rfl HVV rfl ?_)|(at_builtin;refine wpList_push el_E rfl _ _ rfl hown (blk _ _).toArray rfl rfl (blk_size _ _) (blk_one' _ _) hb1 hb2 hbs ?_;intro g cap w3 hown3 hg3 hat3;obtain⟨hcz,hfz,HC3⟩:=HC1.out.push' HV.out hown3 hg3))
      go_roundw
      case rel=>exact⟨k+1,es ++ [.single],_,by omega,by go_num,by simp;omega,HGO.out,HC3.out⟩
      case measure=>simp[intOf]<;>omega
   have f63:(num (s[k]'hlt)==63)=false:=by
    have:=eq_num (s[k]'hlt) 63;rw[show num 63=63 from rfl]at this;rw[this];exact beq_eq_false_iff_ne.2 e63
   by_cases e91:s[k]'hlt=91
   ·have f91:(num (s[k]'hlt)==91)=true:=by rw[e91];rfl
    rw[<-HD.out]at HGO
    rw[e91]at HD
    clear e91 e42 e63
    go_upto_region 18 with((refine wpList_allocE rfl rfl ?_;intro W1 hE1 hB1 hz1))
    have HX0:=Lib.hid (XAt.mk (wo:=wo) hE1 hB1)
    clear hE1 hB1 hz1
    have HDL:=Lib.hid (show((toL s).drop k).length=s.size-k by rw[List.length_drop,HL.out])
    have HW1:=Lib.hid HX0.out.bel
    clear HX0
    have hs1000:s.size<=1000:=by omega
    go_wp2_with fail
    (with_reducible refine(rf_class s k W1 hs1000 hlt).mono ?_)
    intro e w1 hpost
    obtain⟨vc,rfl,hcl,hb1'⟩:=hpost
    have hbw1:Below wo.heap.size wo w1:=HW1.out.trans (hb1'.mono HW1.out.size)
    have HC1:=Lib.hid (HC.out.later hbw1)
    have hsz:=HW1.out.size
    clear hb1' HW1 HC hs1000
    rcases hcf:classF ((toL s).drop k) with _|⟨X,n⟩
    ·have HX:=Lib.hid hcf
     rw[hcf]at hcl
     clear hcf
     have HBAD:=Lib.hid (show compF (toL s)=([],k,3) from by rw[HGO.out,HD.out];exact compGo_noclass _ _ _ (by rw[<-HD.out];exact HX.out))
     clear HX HD HGO
     obtain⟨f,rfl⟩:=hcl
     have HC0:=HC1
     go_upto_region 19 with(first|(refine wpList_allocE rfl rfl ?_;intro W3 hE3 hB3 hz3)|(refine wpList_storeE' (f':=f) rfl _ _ rfl hE3 rfl rfl ?_;intro W4 HW4))
     have HX:=Lib.hid (show XAt w1 W4 false f from⟨by rw[HW4.out];exact hE3.stored,by rw[HW4.out];exact below_setCells (Nat.le_refl _) _ _ _ _ hB3⟩)
     clear hE3 hB3 hz3 HW4
     have HC1:=Lib.hid (HC0.out.later HX.out.bel)
     have hres:=HC1.out.res
     have HBB:=Lib.hid HC1.out.bel
     clear HC1
     go_wp2_with ((refine wpList_storeP rfl _ _ rfl hres rfl rfl rfl rfl ?_;intro W5 hP5 hB5))
     refine bodyPost_ret (results_P rfl _ _ w.heap.size _ _ _ _ hP5 rfl rfl rfl Tryz.underlying137 rfl (size_P _ _)) rfl ?_
     exact rcomp_no HBAD.out (by decide) _ rfl (HBB.out.trans (hB5 _ (Nat.le_refl _)))
    ·have HX:=Lib.hid hcf
     rw[hcf]at hcl
     obtain⟨hn2,hnl,_⟩:=classF_range hcf
     clear hcf
     have HY:=Lib.hid (show compF (toL s)=compGo 0 ((toL s).drop (k+n)) (k+n) (es ++ [.cls X]) from by
      have h91:=compGo_class ((toL s).drop (k+1)) k es X n (by rw[<-HD.out];exact HX.out) (by omega) (by rw[<-HD.out];exact hnl)
      rw[HGO.out]
      rw[<-HD.out,List.drop_drop]at h91
      exact h91)
     rw[HDL.out]at hnl
     clear HX HD HGO HDL
     obtain⟨f,hf,rfl⟩:=hcl
     have HV:=Lib.hid (eV_cls hf)
     clear hf
     have HC0:=HC1
     go_upto_region 19 with(first|(refine wpList_allocE rfl rfl ?_;intro W3 hE3 hB3 hz3)|(refine wpList_storeE' (f':=f) rfl _ _ rfl hE3 rfl rfl ?_;intro W4 HW4))
     have HX:=Lib.hid (show XAt w1 W4 false f from⟨by rw[HW4.out];exact hE3.stored,by rw[HW4.out];exact below_setCells (Nat.le_refl _) _ _ _ _ hB3⟩)
     clear hE3 hB3 hz3 HW4
     have HC1:=Lib.hid (HC0.out.later HX.out.bel)
     have n0:(0:Int)<=(k:Int)+(n:Int):=by omega
     have n1:(0:Int)<=((k+n:Nat):Int):=by omega
     clear HC1
     have HC:=HC0
     clear HC0
     have HC1:=Lib.hid (HC.out.later HX.out.bel)
     have hEp:=HX.out.x
     have hcp:=HC1.out.cellv
     have hown:=HC1.out.own
     have hbs:=HC1.out.size
     clear HC HX
     go_wp2_with (first|(refine wpList_loadE rfl _ rfl hEp rfl ?_;intro V HVV)|(refine wpList_buildE rfl _ rfl HVV rfl ?_)|(at_builtin;refine wpList_push el_E rfl _ _ rfl hown (blk _ _).toArray rfl rfl (blk_size _ _) (blk_one' _ _) hb1 hb2 hbs ?_;intro g cap w3 hown3 hg3 hat3;obtain⟨hcz,hfz,HC3⟩:=HC1.out.push' HV.out hown3 hg3))
     go_roundw
     case rel=>exact⟨k+n,es ++ [.cls X],_,by omega,by go_num,by simp;omega,HY.out,HC3.out⟩
     case measure=>simp[intOf]<;>omega
   have f91:(num (s[k]'hlt)==91)=false:=by
    have:=eq_num (s[k]'hlt) 91;rw[show num 91=91 from rfl]at this;rw[this];exact beq_eq_false_iff_ne.2 e91
   rcases hch:isChar (s[k]'hlt) with _|_
   ·rw[compGo_bad _ _ _ _ e63 e42 e91 hch]at HGO
    have HCH:=Lib.hid hch
    clear e63 e42 e91 hch
    go_upto_region 23 with((refine wpList_allocE rfl rfl ?_;intro W1 hE1 hB1 hz1))
    have HX0:=Lib.hid (XAt.mk (wo:=wo) hE1 hB1)
    clear hE1 hB1 hz1
    have hres:=(HC.out.later HX0.out.bel).res
    have HBB:=Lib.hid (HC.out.bel.trans (HX0.out.bel.mono HC.out.bel.size))
    clear HX0
    go_wp2_with (first|(go_at_call 93;(with_reducible refine(rf_char _ _).mono ?_);rintro e w' ⟨rfl,rfl⟩;rw[HCH.out])|(refine wpList_storeP rfl _ _ rfl hres rfl rfl rfl rfl ?_;intro W2 hP2 hB2))
    refine bodyPost_ret (results_P rfl _ _ w.heap.size _ _ _ _ hP2 rfl rfl rfl Tryz.underlying137 rfl (size_P _ _)) rfl ?_
    exact rcomp_no HGO.out (by decide) _ rfl (HBB.out.trans (hB2 _ (Nat.le_refl _)))
   ·rw[compGo_lit _ _ _ _ e63 e42 e91 hch]at HGO
    have HCH:=Lib.hid hch
    have HCL:=Lib.hid (char_lt _ hch)
    have HLS:=Lib.hid (lit_set (s[k]'hlt))
    have l128:num (s[k]'hlt)<128:=by have:=HCL.out;simp only[num];omega
    have l0:(0:Int)<=num (s[k]'hlt):=by simp only[num];omega
    have e2:(num (s[k]'hlt)).toNat = (s[k]'hlt).toNat:=by simp[num]
    clear e63 e42 e91 hch
    go_upto_region 23 with((refine wpList_allocE rfl rfl ?_;intro W1 hE1 hB1 hz1))
    have HX0:=Lib.hid (XAt.mk (wo:=wo) hE1 hB1)
    clear hE1 hB1 hz1
    have c0:=HX0.out.x.cell (s[k]'hlt).toNat HCL.out
    have c1:=HX0.out.x.frozen (s[k]'hlt).toNat HCL.out
    go_upto_region 25 with((go_at_call 93;(with_reducible refine(rf_char _ _).mono ?_);rintro e w' ⟨rfl,rfl⟩;rw[HCH.out]))
    have HX:=Lib.hid (HX0.out.set (s[k]'hlt).toNat HCL.out true HLS.out)
    clear c0 c1 HX0 e2
    generalize W1.setCell ⟨wo.heap.size,1+(s[k]'hlt).toNat,none⟩ (.bool true)=W2 at *
    have HV:=Lib.hid (show blk false (setF [s[k]'hlt])=eV (.lit (s[k]'hlt)) from rfl)
    have HC1:=Lib.hid (HC.out.later HX.out.bel)
    have hEp:=HX.out.x
    have hcp:=HC1.out.cellv
    have hown:=HC1.out.own
    have hbs:=HC1.out.size
    clear HC HX
    go_wp2_with (first|(refine wpList_loadE rfl _ rfl hEp rfl ?_;intro V HVV)|(refine wpList_buildE rfl _ rfl HVV rfl ?_)|(at_builtin;refine wpList_push el_E rfl _ _ rfl hown (blk _ _).toArray rfl rfl (blk_size _ _) (blk_one' _ _) hb1 hb2 hbs ?_;intro g cap w3 hown3 hg3 hat3;obtain⟨hcz,hfz,HC3⟩:=HC1.out.push' HV.out hown3 hg3))
    go_roundw
    case rel=>exact⟨k+1,es ++ [.lit (s[k]'hlt)],_,by omega,by go_num,by simp;omega,HGO.out,HC3.out⟩
    case measure=>simp[intOf]<;>omega
  ·obtain rfl:k=s.size:=by omega
   have HZ:=Lib.hid (show compF (toL s)=(es,0,0) from by rw[HGO.out,List.drop_of_length_le (by rw[HL.out];omega),compGo_end])
   have hres:=hC.res
   have hheap:=hC.heap
   have HC:=Lib.hid hC;clear hC
   have hv1:v.oneCell'=true:=by
    rcases own_form HC.out.own with⟨rfl,_⟩|⟨g,cap,rfl,_⟩<;>rfl
   go_wp2_with (first|(refine wpList_loadP rfl _ rfl hheap rfl ?_)|(refine wpList_storePK rfl _ _ rfl hres rfl rfl rfl hv1 ?_;intro W2 hP2 hB2 hK2 hz2))
   refine bodyPost_ret (results_P rfl _ _ w.heap.size _ _ _ _ hP2 rfl rfl rfl Tryz.underlying137 rfl (size_P _ _)) rfl ?_
   exact rcomp_yes HZ.out HC.out hz2.out hK2 (HC.out.bel.trans (hB2 _ (Nat.le_refl _)))
structure EsAt(w:World)(pb:Nat)(A:Option Addr)(c:Nat)(es:List Em):Prop where
 cell:w.cell? ⟨pb,1,none⟩=some (.slice A es.length c)
 row:Row w A (rowsE es)
theorem EsAt.below{w w':World}{pb:Nat}{A:Option Addr}{c:Nat}{es:List Em}(h:EsAt w pb A c es)(hb:Below w.heap.size w w'):EsAt w' pb A c es :=
 ⟨(hb.cell (p:=⟨pb,1,none⟩) (World.block_lt_of_cell? w _ h.cell)).trans h.cell,h.row.below hb⟩
theorem EsAt.at{w:World}{pb:Nat}{A:Option Addr}{c:Nat}{es:List Em}(h:EsAt w pb A c es){k:Nat}(hk:k<es.length):∃bb off,A=some ⟨bb,off,none⟩/\bb<w.heap.size/\w.cell? ⟨bb,off+k*129,none⟩=some (.bool es[k].isStar)/\∀j,j<128->w.cell? ⟨bb,off+k*129+1+j,none⟩=some (.bool (emFn es[k] j)):=by
 obtain⟨bb,off,e,hlt,hc⟩:=h.row.at (k:=k*129) (by rw[rowsE_len];omega)
 refine⟨bb,off,e,hlt,hc _ _ (rowsE_star es k hk),fun j hj=>?_⟩
 have:=hc _ _ (rowsE_set es k j hk hj)
 rw[show off+k*129+1+j=off+(k*129+1+j) by omega]
 exact this
theorem emFn_one{e:Em}(hs:e.isStar=false)(c:UInt8):emFn e c.toNat = e.chars.contains c:=by
 unfold emFn;rw[hs];simp[setF]
theorem box_es{w:World}{txt:ByteArray}{A:Option Addr}{c:Nat}{es:List Em}(h:Row w A (rowsE es)):EsAt (w.alloc (.cells #[.string txt,.slice A es.length c] 137)) w.heap.size A c es :=
 ⟨by rw[Lib.cell_of_heap (heap_alloc_new w _)];rfl,h.below ((Below.refl _ _).alloc (Nat.le_refl _) _)⟩
def CharsTo(L:Bs)(k:Nat):Prop:=Chars (L.take k)
theorem charsTo_zero(L:Bs):CharsTo L 0:=by simp[CharsTo,Chars]
theorem charsTo_succ{s:ByteArray}{k:Nat}(hk:k<s.size)(h:CharsTo (toL s) k)(hc:isChar (s[k]'hk)=true):CharsTo (toL s) (k+1):=by
 unfold CharsTo at *
 have hkl:k<(toL s).length:=by rw[toL_length];exact hk
 rw[List.take_succ_eq_append_getElem hkl,toL_getElem s k hk]
 intro c hm
 rcases List.mem_append.1 hm with hm|hm
 ·exact h c hm
 ·simp at hm;subst hm;exact hc
theorem charsTo_end{s:ByteArray}(h:CharsTo (toL s) s.size):Chars (toL s):=by
 unfold CharsTo at h;rwa [List.take_of_length_le (by rw[toL_length];omega)]at h
theorem noChar{es:List Em}(hok:∀e∈es,e.Ok){s:ByteArray}{k:Nat}(hk:k<s.size)(hc:isChar (s[k]'hk)=false):matchF es (toL s)=false:=by
 rw[Bool.eq_false_iff]
 intro h
 have:=matchF_chars es hok _ h (s[k]'hk) (by rw[<-toL_getElem s k hk];exact List.getElem_mem _)
 rw[hc]at this;cases this
structure DpAt(W:World)(es:List Em)(L:Bs)(k m:Nat)(wr:World):Prop where
 bools:BoolsAt wr m (dpF es L k)
 bel:Below W.heap.size W wr
structure NxAt(m4:Nat)(wo:World)(es:List Em)(L:Bs)(k i:Nat)(wx:World):Prop where
 bools:BoolsAt wx m4 (dpG es L k i)
 bel:Below m4 wo wx
theorem NxAt.put{m4:Nat}{wo wx:World}{es:List Em}{L:Bs}{k i:Nat}(h:NxAt m4 wo es L k i wx)(hi:i<=L.length)(b:Bool)(hb:matchF (es.take k) (L.take i)=b):NxAt m4 wo es L k (i+1) (wx.setCell ⟨m4,i,none⟩ (.bool b)) :=
 ⟨by have:=h.bools.set i b;rwa [dpG_set es L k i b hi hb]at this,h.bel.setCell (p:=⟨m4,i,none⟩) (Nat.le_refl _) _⟩
theorem NxAt.skip{m4:Nat}{wo wx:World}{es:List Em}{L:Bs}{k i:Nat}(h:NxAt m4 wo es L k i wx)(hi:i<=L.length)(hb:matchF (es.take k) (L.take i)=false):NxAt m4 wo es L k (i+1) wx :=
 ⟨by have:=h.bools;rwa [dpG_skip es L k i hi hb]at this,h.bel⟩
theorem NxAt.drew{m4:Nat}{wo wx:World}{es:List Em}{L:Bs}{k i:Nat}(h:NxAt m4 wo es L k i wx):NxAt m4 wo es L k i wx.drew :=
 ⟨h.bools,h.bel.drew⟩
set_option maxHeartbeats 8000000 in
set_option maxRecDepth 100000 in
theorem rf_match(v:Value)(txt:ByteArray)(es:List Em)(s:ByteArray)(w:World)(hp:RPat w txt es v)(he:es.length<=1000)(hok:∀e∈es,e.Ok)(hs:s.size<=100000) :
  Calls Tryz.prog 68 #[v,.string s] w fun e w'=>e=.returned (.bool (matchF es (toL s)))/\Below w.heap.size w w':=by
 obtain⟨A,c,rfl,hrow,hty⟩:=hp
 have HE:=Lib.hid (box_es (txt:=txt) (c:=c) hrow)
 have HB:=Lib.hid ((Below.refl w.heap.size w).alloc (Nat.le_refl _) (.cells #[.string txt,.slice A es.length c] 137))
 have HOK:=Lib.hid hok
 have HL:=Lib.hid (toL_length s)
 have HNC:=Lib.hid (fun k hk hc=>noChar hok (s:=s) (k:=k) hk hc)
 clear hrow hty hok
 go_enter Tryz.func68,Tryz.ntmps68
 go_upto_region 1 with fail
 generalize w.alloc (.cells #[.string txt,.slice A es.length c] 137)=W at *
 go_wp2_with fail
 go_loop [5,10] (fun v5 _=>∃k:Nat,k<=s.size/\v5=.int .i64 (k:Int)/\CharsTo (toL s) k) (fun v5 _=>s.size-(intOf v5).toNat)
 case atStart=>exact⟨0,by omega,rfl,charsTo_zero _⟩
 case round =>
  obtain⟨k,hk,rfl,hch⟩:=hrel
  have HC:=Lib.hid hch;clear hch
  by_cases hlt:k<s.size
  ·have k0:(0:Int)<=(k:Int):=by omega
   have k1:(k:Int)<(s.size:Int):=by omega
   rcases hc:isChar (s[k]'hlt) with _|_
   ·have HR:=Lib.hid (HNC.out k hlt hc)
    have HCH:=Lib.hid hc;clear hc
    go_wp2_with ((go_at_call 93;(with_reducible refine(rf_char _ _).mono ?_);rintro e w' ⟨rfl,rfl⟩;rw[HCH.out]))
    go_ret
    exact⟨ret_bool (by rw[HR.out]),HB.out⟩
   ·have HR:=Lib.hid (charsTo_succ hlt HC.out hc)
    have HCH:=Lib.hid hc;clear hc
    go_wp2_with ((go_at_call 93;(with_reducible refine(rf_char _ _).mono ?_);rintro e w' ⟨rfl,rfl⟩;rw[HCH.out]))
    go_round
    case rel=>exact⟨k+1,by omega,by go_num,HR.out⟩
    case measure=>simp[intOf]<;>omega
  ·obtain rfl:k=s.size:=by omega
   have HCS:=Lib.hid (charsTo_end HC.out)
   clear HC HNC hlt
   obtain⟨W1,hmk,hB1,hb1⟩:=run_make_bools W (s.size+1) ((s.size:Int)+1) (by omega) (by omega)
   have hc0:=hB1.cell 0 (by simp)
   have hf0:=hB1.free 0
   have hlt0:=heap_lt hB1
   have hq:(0:Int)<((s.size+1:Nat):Int):=by omega
   have HD0:=Lib.hid (show DpAt W es (toL s) 0 W.heap.size (W1.setCell ⟨W.heap.size,0,none⟩ (.bool true)) from⟨by
    have:=hB1.set 0 true
    rwa [show s.size+1=(toL s).length+1 by rw[HL.out],dpF_start]at this,hb1.setCell (p:=⟨W.heap.size,0,none⟩) (Nat.le_refl _) (.bool true)⟩)
   clear hB1
   go_wp2_with fail
   clear hmk hc0 hf0 hlt0 hb1
   generalize W1.setCell ⟨W.heap.size,0,none⟩ (.bool true)=W2 at *
   go_loopw [6,7] (fun v6 v7 wr=>∃(k m cap:Nat),k<=es.length/\v7=.int .i64 (k:Int)/\v6=.slice (some ⟨m,0,none⟩) (s.size+1) cap/\DpAt W es (toL s) k m wr) (fun _ v7 _=>es.length-(intOf v7).toNat)
   case atStart=>exact⟨0,W.heap.size,_,by omega,rfl,rfl,HD0.out⟩
   case round =>
    obtain⟨k,m,cap,hk,rfl,rfl,hD⟩:=hrel
    clear HD0
    obtain⟨wo,rfl⟩:∃wo:World,wo=wr:=⟨_,rfl⟩
    have HD:=Lib.hid hD;clear hD
    have hcell:=(HE.out.below HD.out.bel).cell
    by_cases hlt:k<es.length
    ·have k0:(0:Int)<=(k:Int):=by omega
     have k1:(k:Int)<(es.length:Int):=by omega
     obtain⟨W5,hmk,hB5,hb5⟩:=run_make_bools wo (s.size+1) ((s.size:Int)+1) (by omega) (by omega)
     have HN0:=Lib.hid (show NxAt wo.heap.size wo es (toL s) (k+1) 0 W5 from⟨by
      rw[dpG_zero,HL.out];exact hB5,hb5⟩)
     obtain⟨bb,off,hA,hblt,h0,hj⟩:=(HE.out.below HD.out.bel).at hlt
     subst hA
     have HJ:=Lib.hid hj
     have hmlt:m<wo.heap.size:=heap_lt HD.out.bools
     have hpb:w.heap.size<wo.heap.size:=World.block_lt_of_cell? wo _ hcell
     clear hj hb5 hB5
     go_wp2_with fail
     clear hmk
     have HST:=Lib.hid (fun j (hs:es[k].isStar=true) (hj:j<s.size) (hc:isChar ((toL s)[j]'(by rw[HL.out];exact hj))=true)=>dp_star_succ es k hlt hs (toL s) j (by rw[HL.out];exact hj) hc)
     have HST0:=Lib.hid (fun (hs:es[k].isStar=true)=>dp_star_zero es k hlt hs)
     have HON:=Lib.hid (fun j (hs:es[k].isStar=false) (hj:j<s.size)=>dp_one_succ es k hlt hs (toL s) j (by rw[HL.out];exact hj))
     have HON0:=Lib.hid (fun (hs:es[k].isStar=false)=>dp_one_zero es k hlt hs)
     generalize hm4:wo.heap.size=m4 at *
     go_loopw [9,38] (fun v9 _ wx=>∃i:Nat,i<=s.size+1/\v9=.int .i64 (i:Int)/\NxAt m4 wo es (toL s) (k+1) i wx) (fun v9 _ _=>s.size+1-(intOf v9).toNat)
     case atStart=>exact⟨0,by omega,rfl,HN0.out⟩
     case round =>
      obtain⟨i,hi,rfl,hN⟩:=hrel
      clear HN0
      obtain⟨wi,rfl⟩:∃wi:World,wi=wr:=⟨_,rfl⟩
      have HN:=Lib.hid hN;clear hN
      have g0:=(HN.out.bel.cell (p:=⟨bb,off+k*129,none⟩) hblt).trans h0
      have gc:=(HN.out.bel.cell (p:=⟨w.heap.size,1,none⟩) hpb).trans hcell
      by_cases hil:i<=s.size
      ·have i0:(0:Int)<=(i:Int):=by omega
       have i1:(i:Int)<((s.size+1:Nat):Int):=by omega
       have i2:(i:Int)<=(s.size:Int):=by omega
       have hLi:i<=(toL s).length:=by rw[HL.out];exact hil
       have hcan:wi.cell? ⟨m,i,none⟩=some (.bool (matchF (es.take k) ((toL s).take i))):=by
        rw[(HN.out.bel.cell (p:=⟨m,i,none⟩) hmlt),HD.out.bools.cell i (by rw[dpF_len,HL.out];omega),dpF_get _ _ _ _ hLi]
       have hold:=HN.out.bools.cell i (by rw[dpG_len,HL.out];omega)
       have hfre:=HN.out.bools.free i
       have l1:m<wi.heap.size:=Nat.lt_of_lt_of_le (Nat.lt_of_lt_of_le hmlt (Nat.le_of_eq hm4.symm)) (Nat.le_trans (Nat.le_of_eq hm4) (Nat.le_of_lt (heap_lt HN.out.bools)))
       have l2:bb<wi.heap.size:=World.block_lt_of_cell? wi _ g0
       have l3:w.heap.size<wi.heap.size:=World.block_lt_of_cell? wi _ gc
       have l4:m4<wi.heap.size:=heap_lt HN.out.bools
       rcases hs:es[k].isStar with _|_
       ·rw[hs]at g0
        rcases Nat.eq_zero_or_pos i with hi0|hi0
        ·have HS:=Lib.hid (HN.out.skip hLi (by rw[hi0];exact HON0.out hs))
         have gd:decide ((0:Int)<(i:Int))=false:=by simp;omega
         have ge:(i:Int)<=0:=by omega
         clear hcan hold hfre hs hi0
         go_wp2_with fail
         go_roundw
         case rel=>exact⟨i+1,by omega,by go_num,HS.out⟩
         case measure=>simp[intOf]<;>omega
        ·obtain⟨j,rfl⟩:∃j,i=j+1:=⟨i-1,by omega⟩
         have hjs:j<s.size:=by omega
         have hcj:wi.cell? ⟨m,j,none⟩=some (.bool (matchF (es.take k) ((toL s).take j))):=by
          rw[(HN.out.bel.cell (p:=⟨m,j,none⟩) hmlt),HD.out.bools.cell j (by rw[dpF_len,HL.out];omega),dpF_get _ _ _ _ (by omega)]
         have HV:=Lib.hid (HON.out j hs hjs)
         have HCJ:=Lib.hid (char_lt _ (HCS.out _ (List.getElem_mem (show j<(toL s).length by rw[HL.out];exact hjs))))
         have hsj:=(HN.out.bel.cell (p:=⟨bb,off+k*129+1+(s[j]'hjs).toNat,none⟩) hblt).trans (HJ.out (s[j]'hjs).toNat (by have:=HCJ.out;rw[toL_getElem s j hjs]at this;exact this))
         rw[emFn_one hs]at hsj
         rw[toL_getElem s j hjs]at HV
         have e1:IntKind.i64.wrap ((j:Int)+1-1)=(j:Int):=by rw[Int.add_sub_cancel];exact IntWalk.i64_in _ (by omega)
         have e2:(num (s[j]'hjs)).toNat = (s[j]'hjs).toNat:=by simp[num]
         have e3:(0:Int)<=num (s[j]'hjs):=by simp only[num];omega
         have e4:num (s[j]'hjs)<128:=by have:=HCJ.out;rw[toL_getElem s j hjs]at this;simp only[num];omega
         have j0:(0:Int)<=(j:Int):=by omega
         have j1:(j:Int)<((s.size+1:Nat):Int):=by omega
         have j2:(j:Int)<(s.size:Int):=by omega
         have j3:(0:Int)<(j:Int)+1:=by omega
         have j4:(j:Int)+1<((s.size+1:Nat):Int):=by omega
         clear hcan hs hi0
         generalize es[k].chars.contains (s[j]'hjs)=b2 at *
         rcases hb1:matchF (es.take k) ((toL s).take j) with _|_
         ·rw[hb1]at hcj
          rw[hb1,Bool.false_and]at HV
          have HS:=Lib.hid (HN.out.put hLi false HV.out).drew
          clear hb1 HV hsj
          go_wp2_with fail
          go_region
          all_goals
           go_wp2_with fail
           go_roundw
           case rel=>exact⟨j+1+1,by omega,by go_num,HS.out⟩
           case measure=>simp[intOf]<;>omega
         ·rw[hb1]at hcj
          rw[hb1,Bool.true_and]at HV
          have HS:=Lib.hid (HN.out.put hLi b2 HV.out).drew
          clear hb1 HV
          go_wp2_with fail
          go_region
          all_goals
           go_wp2_with fail
           go_roundw
           case rel=>exact⟨j+1+1,by omega,by go_num,HS.out⟩
           case measure=>simp[intOf]<;>omega
       ·rw[hs]at g0
        rcases Nat.eq_zero_or_pos i with hi0|hi0
        ·have HV:=Lib.hid (show matchF (es.take (k+1)) ((toL s).take i)=matchF (es.take k) ((toL s).take i) from by rw[hi0,List.take_zero];exact HST0.out hs)
         have gd:decide ((0:Int)<(i:Int))=false:=by simp;omega
         have ge:(i:Int)<=0:=by omega
         rcases hb1:matchF (es.take k) ((toL s).take i) with _|_
         all_goals
          have HS:=Lib.hid (HN.out.put hLi _ (HV.out.trans hb1))
          rw[hb1]at hcan
          clear hb1 hs hi0
          go_wp2_with fail
          go_roundw
          case rel=>exact⟨i+1,by omega,by go_num,HS.out⟩
          case measure=>simp[intOf]<;>omega
        ·obtain⟨j,rfl⟩:∃j,i=j+1:=⟨i-1,by omega⟩
         have hjs:j<s.size:=by omega
         have HV:=Lib.hid (HST.out j hs hjs (HCS.out _ (List.getElem_mem _)))
         have hnj:wi.cell? ⟨m4,j,none⟩=some (.bool (matchF (es.take (k+1)) ((toL s).take j))):=by
          rw[HN.out.bools.cell j (by rw[dpG_len,HL.out];omega),dpG_get _ _ _ _ _ (by omega) (by omega)]
         have e1:IntKind.i64.wrap ((j:Int)+1-1)=(j:Int):=by rw[Int.add_sub_cancel];exact IntWalk.i64_in _ (by omega)
         have j0:(0:Int)<=(j:Int):=by omega
         have j1:(j:Int)<((s.size+1:Nat):Int):=by omega
         have j3:(0:Int)<(j:Int)+1:=by omega
         have j4:(j:Int)+1<((s.size+1:Nat):Int):=by omega
         clear hi0 hs
         rcases hb1:matchF (es.take k) ((toL s).take (j+1)) with _|_
         ·rw[hb1]at hcan
          rw[hb1,Bool.false_or]at HV
          have HS:=Lib.hid (HN.out.put hLi _ HV.out)
          clear hb1 HV
          generalize matchF (es.take (k+1)) ((toL s).take j)=b2 at *
          go_wp2_with fail
          go_roundw
          case rel=>exact⟨j+1+1,by omega,by go_num,HS.out⟩
          case measure=>simp[intOf]<;>omega
         ·rw[hb1]at hcan
          rw[hb1,Bool.true_or]at HV
          have HS:=Lib.hid (HN.out.put hLi _ HV.out)
          clear hb1 HV hnj
          go_wp2_with fail
          go_roundw
          case rel=>exact⟨j+1+1,by omega,by go_num,HS.out⟩
          case measure=>simp[intOf]<;>omega
      ·obtain rfl:i=s.size+1:=by omega
       have HS:=Lib.hid (show DpAt W es (toL s) (k+1) m4 wi from⟨by
        have:=HN.out.bools
        rw[<-HL.out,dpG_all]at this;exact this,HD.out.bel.trans (HN.out.bel.mono (by rw[<-hm4];exact HD.out.bel.size))⟩)
       have ge:(s.size:Int)<((s.size+1:Nat):Int):=by omega
       have ge2:(s.size:Int)<(s.size:Int)+1:=by omega
       clear hm4
       go_wp2_with fail
       go_roundw
       case rel=>exact⟨k+1,m4,_,by omega,by go_num,rfl,HS.out⟩
       case measure=>simp[intOf]<;>omega
    ·obtain rfl:k=es.length:=by omega
     have hend:=HD.out.bools.cell s.size (by rw[dpF_len,HL.out];omega)
     rw[show(dpF es (toL s) es.length).getD s.size false=matchF es (toL s) from by rw[<-HL.out];exact dpF_end es (toL s)]at hend
     have hi1:(0:Int)<=(s.size:Int):=by omega
     have hi2:(s.size:Int)<((s.size+1:Nat):Int):=by omega
     have HBB:=Lib.hid (HB.out.trans (HD.out.bel.mono HB.out.size))
     go_wp2_with fail
     go_ret
     exact⟨rfl,HBB.out⟩
end Go.Proofs.YtannhfnpigiggaaGreatDoor
