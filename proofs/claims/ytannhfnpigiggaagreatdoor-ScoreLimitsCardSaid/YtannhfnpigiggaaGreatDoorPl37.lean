import Derived.Test.YtannhfnpigiggaaGreatDoorPl34
import Derived.Test.YtannhfnpigiggaaGreatDoorPl35
import Derived.Test.YtannhfnpigiggaaGreatDoorPl36
namespace Go.Proofs.YtannhfnpigiggaaGreatDoor
set_option linter.unusedSimpArgs false
set_option linter.unusedVariables false
open Go.RowKit
theorem rf_class(s:ByteArray)(k:Nat)(w:World)(hs:s.size<=1000)(hk:k<s.size):Calls Tryz.prog 94 #[.string s,.int .i64 k] w (RClassPost ((toL s).drop k) k w):=by
 by_cases h1:k+1<s.size
 ·rcases h94:(num (s[k+1]'h1)==94) with _|_
  ·exact rf_class_c s k w hs hk h1 h94
  ·exact rf_class_a s k w hs hk h1 h94
 ·exact rf_class_b s k w hs hk h1
theorem blk_one'(s:Bool)(f:Nat->Bool):∀u∈(blk s f).toArray.toList,u.oneCell'=true:=by simpa using blk_one s f
theorem RAt.push'{w wr w1:World}{s:ByteArray}{es:List Em}{v v':Value}{x:Em}{t:Bool}{f:Nat->Bool}(h:RAt w s es v wr)(hx:blk t f=eV x)(hown:w1.ownsRow (w.heap.size+2) 176 129 v' (es.length+1) (rowsE es++(blk t f).toArray.toList))(hg:wr.grownBy w1 v.ownBlock) :
  w1.cell? ⟨w.heap.size+1,1,none⟩=some v/\w1.frozen? ⟨w.heap.size+1,1,none⟩=false/\Hid (RAt w s (es ++ [x]) v' (w1.setCell ⟨w.heap.size+1,1,none⟩ v')):=by
 obtain⟨h1,h2⟩:=h.push hown (by simpa using hx) hg
 exact⟨by rw[Lib.cell_of_heap h1];rfl,Lib.frozen_of_heap h1 1,Lib.hid h2⟩
theorem wpList_storeE'{ops:Array Oper}{rest:List Oper}{op:Oper}{a:Act}{w:World}{Q:Exit->Act->World->Prop}(hgd:op.guard=none)(x y:Operand)(ho:op.op=.store 176 x y){b:Nat}{s s':Bool}{f f':Nat->Bool}(hE:EAt w b s f)(hx:a.eval x=.pointer (some ⟨b,0,none⟩))(hy:a.eval y=Value.agg (blk s' f').toArray)
  (h:∀W,Hid (W=w.setCells b 0 (blk s' f'))->wpList Tryz.prog ops Q rest (a.put op.dst undef) W):wpList Tryz.prog ops Q (op::rest) a w :=
 wpList_storeE hgd x y ho hE hx (Lib.hid rfl) hy h
theorem wpList_storePK{ops:Array Oper}{rest:List Oper}{op:Oper}{a:Act}{w:World}{Q:Exit->Act->World->Prop}(hgd:op.guard=none)(x y:Operand)(ho:op.op=.store 137 x y){b:Nat}{p q p' q':Value}{t:TypeId}(hE:w.heap[b]?=some (.cells #[p,q] t (0,0)))(hx:a.eval x=.pointer (some ⟨b,0,none⟩))(hy:a.eval y=.agg #[p',q'])(h1:p'.oneCell'=true)(h2:q'.oneCell'=true)
  (h:∀W,W.heap[b]?=some (.cells #[p',q'] t (0,0))->(∀N,N<=b->Below N w W)->(∀k,k≠b->W.heap[k]?=w.heap[k]?)->Hid (W.heap.size=w.heap.size)->wpList Tryz.prog ops Q rest (a.put op.dst undef) W):wpList Tryz.prog ops Q (op::rest) a w :=
 wpList_store_mid hgd _ x y ho b 0 #[p',q'] hx hy (there_heap hE) (size_P _ _) (by simp[h1,h2]) (h _ (set_two hE) (fun N hN=>below_setCells hN _ _ _ _ (Below.refl _ _))
  (fun k hk=>by simp only[World.setCells];rw[heap_setCell_other _ _ _ _ hk,heap_setCell_other _ _ _ _ hk]) (Lib.hid (size_setCells _ _ _ _)))
theorem RAt.cellv{w wr:World}{s:ByteArray}{es:List Em}{v:Value}(h:RAt w s es v wr):wr.cell? ⟨w.heap.size+1,1,none⟩=some v:=by rw[Lib.cell_of_heap h.heap];rfl
set_option maxHeartbeats 8000000 in
set_option maxRecDepth 100000 in
theorem rf_compile(s:ByteArray)(w:World)(hs:s.size<=1000000) :
  Calls Tryz.prog 67 #[.string s] w (RCompPost s w):=by
 have HL:=Lib.hid (toL_length s)
 by_cases h0:s.size=0
 ·have hE:s=⟨#[]⟩:=by
   apply toL_inj;rw[List.eq_nil_of_length_eq_zero (HL.out.trans h0)];rfl
  subst hE
  go_enter Tryz.func67,Tryz.ntmps67
  go_wp2_with (first|(refine wpList_allocP rfl rfl ?_;intro W1 hP1 hB1 hz1)|(refine wpList_storeP rfl _ _ rfl hP1 rfl rfl rfl rfl ?_;intro W2 hP2 hB2))
  refine bodyPost_ret (results_P rfl _ _ w.heap.size _ _ _ _ hP2 rfl rfl rfl Tryz.underlying137 rfl (size_P _ _)) rfl ?_
  exact rcomp_no (n:=0) (k:=4) (by decide +kernel) (by decide) _ rfl (hB1.trans (hB2 _ (Nat.le_refl _)))
 have hE:s.toList.isEmpty=false:=by
  rw[<-Bool.not_eq_true,List.isEmpty_iff];intro h;apply h0;rw[<-HL.out,show toL s=[] from(ByteArray.toList_eq s).symm.trans h];rfl
 by_cases h80:80<s.size
 ·have HC:=Lib.hid (show compF (toL s)=([],80,5) from by rw[compF,if_neg (by rw[HL.out];exact h0),if_pos (by rw[HL.out];exact h80)])
  go_enter Tryz.func67,Tryz.ntmps67
  go_wp2_with (first|(refine wpList_allocP rfl rfl ?_;intro W1 hP1 hB1 hz1)|(refine wpList_storeP rfl _ _ rfl hP1 rfl rfl rfl rfl ?_;intro W2 hP2 hB2))
  refine bodyPost_ret (results_P rfl _ _ w.heap.size _ _ _ _ hP2 rfl rfl rfl Tryz.underlying137 rfl (size_P _ _)) rfl ?_
  exact rcomp_no (n:=80) (k:=5) HC.out (by decide) _ rfl (hB1.trans (hB2 _ (Nat.le_refl _)))
 have HG:=Lib.hid (compF_go s h0 (by omega))
 have h80':s.size<=80:=by omega
 clear h80
 go_enter Tryz.func67,Tryz.ntmps67
 go_upto_region 5 with((refine wpList_allocP rfl rfl ?_;intro W1 hP1 hB1 hz1))
 have HP1:=Lib.hid hP1;have HB1:=Lib.hid hB1
 clear hP1 hB1
 go_upto_region 6 with(first|(refine wpList_allocP rfl rfl ?_;intro W2 hP2 hB2 hz2;have hP2':=hP2;rw[hz1]at hP2')|(refine wpList_storeP rfl _ _ rfl hP2 rfl rfl rfl rfl ?_;intro W3 hP3 hB3)|(refine wpList_storeP rfl _ _ rfl hP2' rfl rfl rfl rfl ?_;intro W3 hP3 hB3))
 have HR:=Lib.hid (show RAt w s [] (.slice none 0 0) W3 from by
  have hb3:Below (w.heap.size+1) W2 W3:=hB3 _ (by omega)
  have hP3':=hP3
  simp only[hz1]at hP3' hB2
  have h1:=HP1.out
  have h2:=(hB2.block _ (show w.heap.size<w.heap.size+1 by omega)).trans h1
  have h3:=(hb3.block _ (show w.heap.size<w.heap.size+1 by omega)).trans h2
  exact⟨h3,hP3',World.ownsRow_nil _ _ _ _,(HB1.out.trans (hB2.mono (by omega))).trans (hb3.mono (by omega))⟩)
 simp only[hz1]
 clear hP2 hP2' hP3 hB2 hB3 hz1 hz2 HP1 HB1
 go_wp2_with fail
 go_loopw [6,20] (fun v6 _ wr=>∃(k:Nat) (es:List Em) (v:Value),k<=s.size/\v6=.int .i64 k/\es.length<=k/\compF (toL s)=compGo 0 ((toL s).drop k) k es/\RAt w s es v wr) (fun v6 _ _=>s.size-(intOf v6).toNat)
 case atStart=>exact⟨0, [],.slice none 0 0,by omega,rfl,by simp,HG.out,HR.out⟩
 case round =>
  obtain⟨k,es,v,hk,rfl,hes,hgo,hC⟩:=hrel
  clear HR HG hE
  have HGO:=Lib.hid hgo;clear hgo
  obtain⟨wo,rfl⟩:∃wo:World,wo=wr:=⟨_,rfl⟩
  by_cases hlt:k<s.size
  ·have hk1:(0:Int)<=(k:Int):=by omega
   have hk2:(k:Int)<(s.size:Int):=by omega
   have HD:=Lib.hid (drop_at (byte_at s k hlt))
   rw[HD.out]at HGO
   have HC:=Lib.hid hC;clear hC
   have hb1:(es.length+1)*129<=140737488355328:=by omega
   have hb2:es.length+1<=maxLen:=by unfold maxLen;omega
   by_cases e42:s[k]'hlt=42
   ·have f42:(num (s[k]'hlt)==42)=true:=by rw[e42];rfl
    rw[e42,compGo_star]at HGO
    clear e42
    go_upto_region 11 with((refine wpList_allocE rfl rfl ?_;intro W1 hE1 hB1 hz1))
    have HX0:=Lib.hid (XAt.mk (wo:=wo) hE1 hB1)
    clear hE1 hB1 hz1
    have c0:=HX0.out.x.cell0;have c1:=HX0.out.x.frozen0
    go_upto_region 25 with fail
    have HX:=Lib.hid (HX0.out.set0 true)
    clear c0 c1 HX0
    generalize W1.setCell ⟨wo.heap.size,0,none⟩ (.bool true)=W2 at *
    have HV:=Lib.hid eV_star
    have HC1:=Lib.hid (HC.out.later HX.out.bel)
    have hEp:=HX.out.x
    have hcp:=HC1.out.cellv
    have hown:=HC1.out.own
    have hbs:=HC1.out.size
    clear HC HX
    go_wp2_with (first|(refine wpList_loadE rfl _ rfl hEp rfl ?_;intro V HVV)|(refine wpList_buildE rfl _ rfl HVV rfl ?_)|(at_builtin;refine wpList_push el_E rfl _ _ rfl hown (blk _ _).toArray rfl rfl (blk_size _ _) (blk_one' _ _) hb1 hb2 hbs ?_;intro g cap w3 hown3 hg3 hat3;obtain⟨hcz,hfz,HC3⟩:=HC1.out.push' HV.out hown3 hg3))
    go_roundw
    case rel=>exact⟨k+1,es ++ [.star],_,by omega,by go_num,by simp;omega,HGO.out,HC3.out⟩
    case measure=>simp[intOf]<;>omega
   have f42:(num (s[k]'hlt)==42)=false:=by
    have:=eq_num (s[k]'hlt) 42;rw[show num 42=42 from rfl]at this;rw[this];exact beq_eq_false_iff_ne.2 e42
   by_cases e63:s[k]'hlt=63
   ·have f63:(num (s[k]'hlt)==63)=true:=by rw[e63];rfl
    rw[e63,compGo_any]at HGO
    clear e63 e42
    go_wp2_with ((refine wpList_allocE rfl rfl ?_;intro W1 hE1 hB1 hz1))
    have HX0:=Lib.hid (XAt.mk (wo:=wo) hE1 hB1)
    clear hE1 hB1 hz1
    go_loopw [8,37] (fun v8 _ wr=>∃q:Nat,q<=128/\v8=.int .i64 (q:Int)/\XAt wo wr false (anyF q)) (fun v8 _ _=>128-(intOf v8).toNat)
    case atStart=>exact⟨0,by omega,rfl,⟨HX0.out.x.congr anyF_zero,HX0.out.bel⟩⟩
    case round =>
     obtain⟨q,hq1,rfl,hxq⟩:=hrel
     clear HX0
     have HX:=Lib.hid hxq
     obtain⟨wi,rfl⟩:∃wi:World,wi=wr:=⟨_,rfl⟩
     by_cases hq:q<128
     ·have p2:(q:Int)<128:=by omega
      have p0:(0:Int)<=(q:Int):=by omega
      have c0:=hxq.x.cell q hq
      have c1:=hxq.x.frozen q hq
      have wu:IntKind.u8.wrap (q:Int)=(q:Int):=wrap_u8 _ (by omega) (by omega)
      have HST:=Lib.hid (anyF_step q)
      clear hxq
      go_wp2_with ((go_at_call 93;(with_reducible refine(rf_char' q (by omega) _ rfl _).mono ?_);rintro e w' ⟨rfl,rfl⟩))
      go_roundw
      case rel=>first|exact⟨q+1,by omega,by go_num,HX.out.set q hq _ HST.out⟩|((repeat apply Exists.intro);exact⟨⟨q+1,by omega,by go_num,HX.out.set q hq _ HST.out⟩,rfl⟩)
      case measure=>simp[intOf]<;>omega
     ·have p2:(128:Int)<=(q:Int):=by omega
      obtain rfl:q=128:=by omega
      clear hxq
      go_upto_region 25 with fail
      have HV:=Lib.hid (eV_any anyF_all)
      have HC1:=Lib.hid (HC.out.later HX.out.bel)
      have hEp:=HX.out.x
      have hcp:=HC1.out.cellv
      have hown:=HC1.out.own
      have hbs:=HC1.out.size
      clear HC HX
      go_wp2_with (first|(refine wpList_loadE rfl _ rfl hEp rfl ?_;intro V HVV)|(refine wpList_buildE rfl _ rfl HVV rfl ?_)|(at_builtin;refine wpList_push el_E rfl _ _ rfl hown (blk _ _).toArray rfl rfl (blk_size _ _) (blk_one' _ _) hb1 hb2 hbs ?_;intro g cap w3 hown3 hg3 hat3;obtain⟨hcz,hfz,HC3⟩:=HC1.out.push' HV.out hown3 hg3))
      go_roundw
      case rel=>exact⟨k+1,es ++ [.single],_,by omega,by go_num,by simp;omega,HGO.out,HC3.out⟩
      case measure=>simp[intOf]<;>omega
   have f63:(num (s[k]'hlt)==63)=false:=by
    have:=eq_num (s[k]'hlt) 63;rw[show num 63=63 from rfl]at this;rw[this];exact beq_eq_false_iff_ne.2 e63
   by_cases e91:s[k]'hlt=91
   ·have f91:(num (s[k]'hlt)==91)=true:=by rw[e91];rfl
    rw[<-HD.out]at HGO
    rw[e91]at HD
    clear e91 e42 e63
    go_upto_region 18 with((refine wpList_allocE rfl rfl ?_;intro W1 hE1 hB1 hz1))
    have HX0:=Lib.hid (XAt.mk (wo:=wo) hE1 hB1)
    clear hE1 hB1 hz1
    have HDL:=Lib.hid (show((toL s).drop k).length=s.size-k by rw[List.length_drop,HL.out])
    have HW1:=Lib.hid HX0.out.bel
    clear HX0
    have hs1000:s.size<=1000:=by omega
    go_wp2_with fail
    (with_reducible refine(rf_class s k W1 hs1000 hlt).mono ?_)
    intro e w1 hpost
    obtain⟨vc,rfl,hcl,hb1'⟩:=hpost
    have hbw1:Below wo.heap.size wo w1:=HW1.out.trans (hb1'.mono HW1.out.size)
    have HC1:=Lib.hid (HC.out.later hbw1)
    have hsz:=HW1.out.size
    clear hb1' HW1 HC hs1000
    rcases hcf:classF ((toL s).drop k) with _|⟨X,n⟩
    ·have HX:=Lib.hid hcf
     rw[hcf]at hcl
     clear hcf
     have HBAD:=Lib.hid (show compF (toL s)=([],k,3) from by rw[HGO.out,HD.out];exact compGo_noclass _ _ _ (by rw[<-HD.out];exact HX.out))
     clear HX HD HGO
     obtain⟨f,rfl⟩:=hcl
     have HC0:=HC1
     go_upto_region 19 with(first|(refine wpList_allocE rfl rfl ?_;intro W3 hE3 hB3 hz3)|(refine wpList_storeE' (f':=f) rfl _ _ rfl hE3 rfl rfl ?_;intro W4 HW4))
     have HX:=Lib.hid (show XAt w1 W4 false f from⟨by rw[HW4.out];exact hE3.stored,by rw[HW4.out];exact below_setCells (Nat.le_refl _) _ _ _ _ hB3⟩)
     clear hE3 hB3 hz3 HW4
     have HC1:=Lib.hid (HC0.out.later HX.out.bel)
     have hres:=HC1.out.res
     have HBB:=Lib.hid HC1.out.bel
     clear HC1
     go_wp2_with ((refine wpList_storeP rfl _ _ rfl hres rfl rfl rfl rfl ?_;intro W5 hP5 hB5))
     refine bodyPost_ret (results_P rfl _ _ w.heap.size _ _ _ _ hP5 rfl rfl rfl Tryz.underlying137 rfl (size_P _ _)) rfl ?_
     exact rcomp_no HBAD.out (by decide) _ rfl (HBB.out.trans (hB5 _ (Nat.le_refl _)))
    ·have HX:=Lib.hid hcf
     rw[hcf]at hcl
     obtain⟨hn2,hnl,_⟩:=classF_range hcf
     clear hcf
     have HY:=Lib.hid (show compF (toL s)=compGo 0 ((toL s).drop (k+n)) (k+n) (es ++ [.cls X]) from by
      have h91:=compGo_class ((toL s).drop (k+1)) k es X n (by rw[<-HD.out];exact HX.out) (by omega) (by rw[<-HD.out];exact hnl)
      rw[HGO.out]
      rw[<-HD.out,List.drop_drop]at h91
      exact h91)
     rw[HDL.out]at hnl
     clear HX HD HGO HDL
     obtain⟨f,hf,rfl⟩:=hcl
     have HV:=Lib.hid (eV_cls hf)
     clear hf
     have HC0:=HC1
     go_upto_region 19 with(first|(refine wpList_allocE rfl rfl ?_;intro W3 hE3 hB3 hz3)|(refine wpList_storeE' (f':=f) rfl _ _ rfl hE3 rfl rfl ?_;intro W4 HW4))
     have HX:=Lib.hid (show XAt w1 W4 false f from⟨by rw[HW4.out];exact hE3.stored,by rw[HW4.out];exact below_setCells (Nat.le_refl _) _ _ _ _ hB3⟩)
     clear hE3 hB3 hz3 HW4
     have HC1:=Lib.hid (HC0.out.later HX.out.bel)
     have n0:(0:Int)<=(k:Int)+(n:Int):=by omega
     have n1:(0:Int)<=((k+n:Nat):Int):=by omega
     clear HC1
     have HC:=HC0
     clear HC0
     have HC1:=Lib.hid (HC.out.later HX.out.bel)
     have hEp:=HX.out.x
     have hcp:=HC1.out.cellv
     have hown:=HC1.out.own
     have hbs:=HC1.out.size
     clear HC HX
     go_wp2_with (first|(refine wpList_loadE rfl _ rfl hEp rfl ?_;intro V HVV)|(refine wpList_buildE rfl _ rfl HVV rfl ?_)|(at_builtin;refine wpList_push el_E rfl _ _ rfl hown (blk _ _).toArray rfl rfl (blk_size _ _) (blk_one' _ _) hb1 hb2 hbs ?_;intro g cap w3 hown3 hg3 hat3;obtain⟨hcz,hfz,HC3⟩:=HC1.out.push' HV.out hown3 hg3))
     go_roundw
     case rel=>exact⟨k+n,es ++ [.cls X],_,by omega,by go_num,by simp;omega,HY.out,HC3.out⟩
     case measure=>simp[intOf]<;>omega
   have f91:(num (s[k]'hlt)==91)=false:=by
    have:=eq_num (s[k]'hlt) 91;rw[show num 91=91 from rfl]at this;rw[this];exact beq_eq_false_iff_ne.2 e91
   rcases hch:isChar (s[k]'hlt) with _|_
   ·rw[compGo_bad _ _ _ _ e63 e42 e91 hch]at HGO
    have HCH:=Lib.hid hch
    clear e63 e42 e91 hch
    go_upto_region 23 with((refine wpList_allocE rfl rfl ?_;intro W1 hE1 hB1 hz1))
    have HX0:=Lib.hid (XAt.mk (wo:=wo) hE1 hB1)
    clear hE1 hB1 hz1
    have hres:=(HC.out.later HX0.out.bel).res
    have HBB:=Lib.hid (HC.out.bel.trans (HX0.out.bel.mono HC.out.bel.size))
    clear HX0
    go_wp2_with (first|(go_at_call 93;(with_reducible refine(rf_char _ _).mono ?_);rintro e w' ⟨rfl,rfl⟩;rw[HCH.out])|(refine wpList_storeP rfl _ _ rfl hres rfl rfl rfl rfl ?_;intro W2 hP2 hB2))
    refine bodyPost_ret (results_P rfl _ _ w.heap.size _ _ _ _ hP2 rfl rfl rfl Tryz.underlying137 rfl (size_P _ _)) rfl ?_
    exact rcomp_no HGO.out (by decide) _ rfl (HBB.out.trans (hB2 _ (Nat.le_refl _)))
   ·rw[compGo_lit _ _ _ _ e63 e42 e91 hch]at HGO
    have HCH:=Lib.hid hch
    have HCL:=Lib.hid (char_lt _ hch)
    have HLS:=Lib.hid (lit_set (s[k]'hlt))
    have l128:num (s[k]'hlt)<128:=by have:=HCL.out;simp only[num];omega
    have l0:(0:Int)<=num (s[k]'hlt):=by simp only[num];omega
    have e2:(num (s[k]'hlt)).toNat = (s[k]'hlt).toNat:=by simp[num]
    clear e63 e42 e91 hch
    go_upto_region 23 with((refine wpList_allocE rfl rfl ?_;intro W1 hE1 hB1 hz1))
    have HX0:=Lib.hid (XAt.mk (wo:=wo) hE1 hB1)
    clear hE1 hB1 hz1
    have c0:=HX0.out.x.cell (s[k]'hlt).toNat HCL.out
    have c1:=HX0.out.x.frozen (s[k]'hlt).toNat HCL.out
    go_upto_region 25 with((go_at_call 93;(with_reducible refine(rf_char _ _).mono ?_);rintro e w' ⟨rfl,rfl⟩;rw[HCH.out]))
    have HX:=Lib.hid (HX0.out.set (s[k]'hlt).toNat HCL.out true HLS.out)
    clear c0 c1 HX0 e2
    generalize W1.setCell ⟨wo.heap.size,1+(s[k]'hlt).toNat,none⟩ (.bool true)=W2 at *
    have HV:=Lib.hid (show blk false (setF [s[k]'hlt])=eV (.lit (s[k]'hlt)) from rfl)
    have HC1:=Lib.hid (HC.out.later HX.out.bel)
    have hEp:=HX.out.x
    have hcp:=HC1.out.cellv
    have hown:=HC1.out.own
    have hbs:=HC1.out.size
    clear HC HX
    go_wp2_with (first|(refine wpList_loadE rfl _ rfl hEp rfl ?_;intro V HVV)|(refine wpList_buildE rfl _ rfl HVV rfl ?_)|(at_builtin;refine wpList_push el_E rfl _ _ rfl hown (blk _ _).toArray rfl rfl (blk_size _ _) (blk_one' _ _) hb1 hb2 hbs ?_;intro g cap w3 hown3 hg3 hat3;obtain⟨hcz,hfz,HC3⟩:=HC1.out.push' HV.out hown3 hg3))
    go_roundw
    case rel=>exact⟨k+1,es ++ [.lit (s[k]'hlt)],_,by omega,by go_num,by simp;omega,HGO.out,HC3.out⟩
    case measure=>simp[intOf]<;>omega
  ·obtain rfl:k=s.size:=by omega
   have HZ:=Lib.hid (show compF (toL s)=(es,0,0) from by rw[HGO.out,List.drop_of_length_le (by rw[HL.out];omega),compGo_end])
   have hres:=hC.res
   have hheap:=hC.heap
   have HC:=Lib.hid hC;clear hC
   have hv1:v.oneCell'=true:=by
    rcases own_form HC.out.own with⟨rfl,_⟩|⟨g,cap,rfl,_⟩<;>rfl
   go_wp2_with (first|(refine wpList_loadP rfl _ rfl hheap rfl ?_)|(refine wpList_storePK rfl _ _ rfl hres rfl rfl rfl hv1 ?_;intro W2 hP2 hB2 hK2 hz2))
   refine bodyPost_ret (results_P rfl _ _ w.heap.size _ _ _ _ hP2 rfl rfl rfl Tryz.underlying137 rfl (size_P _ _)) rfl ?_
   exact rcomp_yes HZ.out HC.out hz2.out hK2 (HC.out.bel.trans (hB2 _ (Nat.le_refl _)))

end Go.Proofs.YtannhfnpigiggaaGreatDoor
