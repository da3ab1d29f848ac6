import Derived.Test.YtannhfnpigiggaaGreatDoorPl33
namespace Go.Proofs.YtannhfnpigiggaaGreatDoor
set_option linter.unusedSimpArgs false
set_option linter.unusedVariables false
open Go.RowKit
set_option maxHeartbeats 8000000 in
set_option maxRecDepth 100000 in
theorem rf_class_b(s:ByteArray)(k:Nat)(w:World)(hs:s.size<=1000)(hk:k<s.size)(h1:¬ k+1<s.size) :
  Calls Tryz.prog 94 #[.string s,.int .i64 k] w (RClassPost ((toL s).drop k) k w):=by
 have hL1:(((toL s).drop k)[1]?==some 94)=false:=by
  rw[List.getElem?_drop,List.getElem?_eq_none (by rw[toL_length];omega)];rfl
 obtain⟨F,hF⟩:∃F,F=k+1:=⟨_,rfl⟩
 have hFs:F<=s.size:=by omega
 have HNO:=Lib.hid (fun X n=>cls_none (L:=(toL s).drop k) (T:=(toL s).drop F) (neg:=false) (fr:=1) (n:=n) (X:=X) hL1 rfl (by rw[List.drop_drop,hF]))
 have HYES:=Lib.hid (fun X n=>cls_some (L:=(toL s).drop k) (T:=(toL s).drop F) (neg:=false) (fr:=1) (n:=n) (X:=X) hL1 rfl (by rw[List.drop_drop,hF]))
 have HT:=Lib.hid (fun i j (e:i=F+j) (h:i<s.size)=>(show((toL s).drop F)[j]?=some (s[i]'h) from by subst e;rw[List.getElem?_drop,byte_at s (F+j) h]))
 have HTL:=Lib.hid (show((toL s).drop F).length=s.size-F by rw[List.length_drop,toL_length])
 have HCHS:=Lib.hid (fun X n (h:itemsF 0 true ((toL s).drop F)=(X,n))=>(show ∀c∈X,isChar c=true from by
  have:=(itemsF_chars _ ((toL s).drop F) (Nat.le_refl _) true).1;rw[h]at this;exact this))
 clear hL1
 generalize (toL s).drop F=T at *
 generalize (toL s).drop k=L at *
 have i1:(s.size:Int)<=(k:Int)+1:=by omega
 go_enter Tryz.func94,Tryz.ntmps94
 go_upto_region 1 with((refine wpList_allocE rfl rfl ?_;intro W1 hE1 hB1 hz1))
 go_wp2_with ((refine wpList_allocE rfl rfl ?_;intro W2 hE2 hB2 hz2))
 rw[hz1]at hE2
 have HC0:=Lib.hid (show ClsAt w W2 (setF []) from⟨hE1.below hB2,hE2.congr setF_nil,hB1.trans (hB2.mono hB1.size)⟩)
 have eF:(k:Int)+1=(F:Int):=by omega
 simp only[eF]
 have HF:=Lib.hid hF
 clear hF hE1 hE2 hB1 hB2 hz1 hz2 eF
 go_loopw [7,10] (fun v7 _ wr=>∃(i:Nat) (X:Bs),F<=i/\i<=s.size/\v7=.int .i64 (i:Int)/\ItemsAt T X (i-F) (decide (i-F=0))/\ClsAt w wr (setF X)) (fun v7 _ _=>s.size-(intOf v7).toNat)
 case atStart=>exact⟨F, [],Nat.le_refl _,hFs,rfl,by simp[ItemsAt],HC0.out⟩
 case round =>
  obtain⟨i,X,hFi,hin,rfl,hat,hcls⟩:=hrel
  clear HC0
  obtain⟨n,HN⟩:∃n,Hid (i=F+n):=⟨i-F,Lib.hid (by omega)⟩
  rw[show i-F=n from by have:=HN.out;omega]at hat
  have HAT:=Lib.hid hat;have HCLS:=Lib.hid hcls;have hCx:=hcls.x;have hCr:=hcls.res
  clear hat hcls
  obtain⟨wo,rfl⟩:∃wo:World,wo=wr:=⟨_,rfl⟩
  by_cases hii:i<s.size
  ·have HC:=Lib.hid (HT.out i n HN.out hii)
   have j1:(0:Int)<=(i:Int):=by omega
   have j2:(i:Int)<(s.size:Int):=by omega
   rcases h93:(num (s[i]'hii)==93) with _|_
   ·-- a byte of the class
    have h93':(num (s[i]'hii) != 93)=true:=by simp[bne,h93]
    have HNE:=Lib.hid (show(some (s[i]'hii):Option UInt8)≠some 93 from fun e=>by
     injection e with e;rw[e]at h93;revert h93;decide)
    clear h93
    rcases hch:isChar (s[i]'hii) with _|_
    ·-- no name character
     have HNI:=Lib.hid (items_stop HAT.out _ HC.out (isRange_no _ _ (by rcases h:isAl (s[i]'hii) with _|_;rfl;rw[isAl_char h]at hch;cases hch)) (by rcases h:plainC (decide (n=0)) (s[i]'hii) with _|_;rfl;rw[plainC_char h]at hch;cases hch))
     have HCH:=Lib.hid hch;clear hch
     go_upto_region 10 with(first|(go_at_call 93;(with_reducible refine(rf_char _ _).mono ?_);rintro e w' ⟨rfl,rfl⟩;rw[HCH.out])|(go_at_call 116;(with_reducible refine(rf_alnum _ _).mono ?_);rintro e w' ⟨rfl,rfl⟩))
     go_wp2_with (first|(refine wpList_loadE rfl _ rfl hCx rfl ?_;intro V HV)|(refine wpList_storeE rfl _ _ rfl hCr rfl HV rfl ?_;intro W HW))
     refine bodyPost_ret (results_E rfl _ _ w.heap.size false _ _ rfl rfl (by rw[HW.out];exact HCLS.out.ret.1) Tryz.underlying176 rfl (size_E _ _)) rfl ?_
     exact rclass_no (HNO.out X n HNI.out (.inr (by rw[HC.out];exact HNE.out))) (by rw[HW.out];exact HCLS.out.ret.2)
    ·have HCL:=Lib.hid (char_lt _ hch)
     have HCH:=Lib.hid hch;clear hch
     rcases h45:(num (s[i]'hii)==45) with _|_
     ·have HN45:=Lib.hid (show(s[i]'hii)≠45 from by rw[num45]at h45;simpa using h45)
      have h45':(num (s[i]'hii) != 45)=true:=by simp[bne,h45]
      have l128:num (s[i]'hii)<128:=by have:=HCL.out;simp only[num];omega
      have l0:(0:Int)<=num (s[i]'hii):=by simp only[num];omega
      by_cases hnx:i+1<s.size
      ·have k1:(i:Int)+1<(s.size:Int):=by omega
       have k0:(0:Int)<=(i:Int)+1:=by omega
       have k2:((i:Int)+1).toNat = i+1:=by omega
       rcases hd:(num (s[i+1]'hnx)==45) with _|_
       ·-- a single character
        have HR:=Lib.hid (show isRange (s[i]'hii) (T.drop (n+1))=false from by
         rw[isRange_at T n _ (s[i+1]'hnx) (HT.out (i+1) (n+1) (by have:=HN.out;omega) hnx),hd];simp)
        have HNX:=Lib.hid (items_one HAT.out _ HC.out HR.out (plain_char HCH.out HN45.out))
        have e0:=hCx.cell (s[i]'hii).toNat HCL.out
        have e1:=hCx.frozen (s[i]'hii).toNat HCL.out
        have e2:(num (s[i]'hii)).toNat = (s[i]'hii).toNat:=by simp[num]
        go_wp2_with (first|(go_at_call 93;(with_reducible refine(rf_char _ _).mono ?_);rintro e w' ⟨rfl,rfl⟩;rw[HCH.out])|(go_at_call 116;(with_reducible refine(rf_alnum _ _).mono ?_);rintro e w' ⟨rfl,rfl⟩))
        go_roundw
        case rel=>exact⟨i+1,X ++ [s[i]'hii],by omega,by omega,by go_num,by rw[show i+1-F=n+1 from by have:=HN.out;omega];simpa using HNX.out,HCLS.out.set _ HCL.out true (setF_snoc X (s[i]'hii))⟩
        case measure=>simp[intOf]<;>omega
       ·-- a minus follows
        have HD:=Lib.hid (show T[n+1]?=some 45 from by
         rw[HT.out (i+1) (n+1) (by have:=HN.out;omega) hnx];rw[num45]at hd
         have:(s[i+1]'hnx)=45:=by simpa using hd
         rw[this])
        by_cases hn2:i+2<s.size
        ·have m1:(i:Int)+2<(s.size:Int):=by omega
         have m0:(0:Int)<=(i:Int)+2:=by omega
         have m2:((i:Int)+2).toNat = i+2:=by omega
         have HD2:=Lib.hid (show T[n+2]?=some (s[i+2]'hn2) from HT.out (i+2) (n+2) (by have:=HN.out;omega) hn2)
         have HAZ:=Lib.hid (alF_zero (s[i]'hii))
         rcases hal:isAl (s[i]'hii) with _|_
         ·-- no range
          have HNI:=Lib.hid (items_dash HAT.out _ HC.out HCH.out HN45.out HD.out (isRange_no _ _ hal))
          have HNB:=Lib.hid (show T[n+1]?≠some 93 from by rw[HD.out];decide)
          rw[hal]at HAZ
          have haz:=HAZ.out
          simp only[Bool.not_false]at haz
          clear hal
          go_upto_region 13 with(first|(go_at_call 93;(with_reducible refine(rf_char _ _).mono ?_);rintro e w' ⟨rfl,rfl⟩;rw[HCH.out])|(go_at_call 116;(with_reducible refine(rf_alnum _ _).mono ?_);rintro e w' ⟨rfl,rfl⟩))
          go_wp2_with (first|(refine wpList_loadE rfl _ rfl hCx rfl ?_;intro V HV)|(refine wpList_storeE rfl _ _ rfl hCr rfl HV rfl ?_;intro W HW))
          refine bodyPost_ret (results_E rfl _ _ w.heap.size false _ _ rfl rfl (by rw[HW.out];exact HCLS.out.ret.1) Tryz.underlying176 rfl (size_E _ _)) rfl ?_
          exact rclass_no (HNO.out _ (n+1) HNI.out (.inr HNB.out)) (by rw[HW.out];exact HCLS.out.ret.2)
         ·have HR:=Lib.hid (show isRange (s[i]'hii) (T.drop (n+1))=true from by
           rw[isRange_at T n _ 45 HD.out,hal,show(num (45:UInt8)==45)=true from by decide];have:=HTL.out;have:=HN.out;simp;omega)
          rw[hal]at HAZ
          have haz:=HAZ.out
          simp only[Bool.not_true]at haz
          rcases hok:okRange (s[i]'hii) (s[i+2]'hn2) with _|_
          ·-- a bad range
           have HNI:=Lib.hid (items_bad HAT.out _ _ HC.out HD2.out HR.out hok)
           rcases bad_al hal hok with q1|⟨q1,q2'⟩
           ·clear hal hok
            go_upto_region 13 with(first|(go_at_call 93;(with_reducible refine(rf_char _ _).mono ?_);rintro e w' ⟨rfl,rfl⟩;rw[HCH.out])|(go_at_call 116;(with_reducible refine(rf_alnum _ _).mono ?_);rintro e w' ⟨rfl,rfl⟩))
            go_wp2_with (first|(refine wpList_loadE rfl _ rfl hCx rfl ?_;intro V HV)|(refine wpList_storeE rfl _ _ rfl hCr rfl HV rfl ?_;intro W HW))
            refine bodyPost_ret (results_E rfl _ _ w.heap.size false _ _ rfl rfl (by rw[HW.out];exact HCLS.out.ret.1) Tryz.underlying176 rfl (size_E _ _)) rfl ?_
            exact rclass_no (HNO.out X n HNI.out (.inr (by rw[HC.out];exact HNE.out))) (by rw[HW.out];exact HCLS.out.ret.2)
           ·have q2:(s[i+2]'hn2).toNat < (s[i]'hii).toNat:=by have:=of_decide_eq_true q2';simp only[num]at this;omega
            clear hal hok q2'
            go_upto_region 13 with(first|(go_at_call 93;(with_reducible refine(rf_char _ _).mono ?_);rintro e w' ⟨rfl,rfl⟩;rw[HCH.out])|(go_at_call 116;(with_reducible refine(rf_alnum _ _).mono ?_);rintro e w' ⟨rfl,rfl⟩))
            go_wp2_with (first|(refine wpList_loadE rfl _ rfl hCx rfl ?_;intro V HV)|(refine wpList_storeE rfl _ _ rfl hCr rfl HV rfl ?_;intro W HW))
            refine bodyPost_ret (results_E rfl _ _ w.heap.size false _ _ rfl rfl (by rw[HW.out];exact HCLS.out.ret.1) Tryz.underlying176 rfl (size_E _ _)) rfl ?_
            exact rclass_no (HNO.out X n HNI.out (.inr (by rw[HC.out];exact HNE.out))) (by rw[HW.out];exact HCLS.out.ret.2)
          ·-- a range
           have HNX:=Lib.hid (items_rng HAT.out _ _ HC.out HD2.out HR.out hok)
           obtain⟨q1,q2'⟩:=ok_al hal hok
           have q2:(s[i]'hii).toNat<=(s[i+2]'hn2).toNat:=by have:=of_decide_eq_false q2';simp only[num]at this;omega
           clear q2'
           obtain⟨x1,x2,x3,HD1,HD0⟩:=okRange_parts hal hok
           have hd1:(s[i+2]'hn2).toNat<=122:=HD1
           have hd0:(s[i]'hii).toNat<=(s[i+2]'hn2).toNat:=HD0
           have HD3:=Lib.hid (And.intro hd1 hd0)
           clear hal hok x1 x2 x3 HD1 HD0 hd1 hd0
           have w3:IntKind.i64.wrap ((i:Int)+3)=(i:Int)+3:=IntWalk.i64_in _ (by omega)
           have w4:IntKind.i64.wrap ((s[i]'hii).toNat:Int)=((s[i]'hii).toNat:Int):=IntWalk.i64_in _ (by have:=(s[i]'hii).toNat_lt;omega)
           have w5:IntKind.i64.wrap ((s[i+2]'hn2).toNat:Int)=((s[i+2]'hn2).toNat:Int):=IntWalk.i64_in _ (by have:=(s[i+2]'hn2).toNat_lt;omega)
           go_wp2_with (first|(go_at_call 93;(with_reducible refine(rf_char _ _).mono ?_);rintro e w' ⟨rfl,rfl⟩;rw[HCH.out])|(go_at_call 116;(with_reducible refine(rf_alnum _ _).mono ?_);rintro e w' ⟨rfl,rfl⟩))
           go_loopw [11,102] (fun v11 _ wr=>∃q:Nat,(s[i]'hii).toNat<=q/\q<=(s[i+2]'hn2).toNat + 1/\v11=.int .i64 (q:Int)/\ClsAt w wr (setF (X++rangeTo (s[i]'hii) q))) (fun v11 _ _=>(s[i+2]'hn2).toNat + 1-(intOf v11).toNat)
           case atStart=>exact⟨(s[i]'hii).toNat,Nat.le_refl _,by have:=HD3.out.2;omega,rfl,by rw[rangeTo_zero,List.append_nil];exact HCLS.out⟩
           case round =>
            obtain⟨q,hq1,hq2,rfl,hcl2⟩:=hrel
            have HCL2:=Lib.hid hcl2
            have hd3:=HD3.out
            by_cases hq:q<=(s[i+2]'hn2).toNat
            ·have p1:(q:Int)<=num (s[i+2]'hn2):=by simp only[num];omega
             have p1n:q<=(s[i+2]'hn2).toNat:=hq
             have p2:(q:Int)<128:=by omega
             have p0:(0:Int)<=(q:Int):=by omega
             have e0:=hcl2.x.cell q (by omega)
             have e1:=hcl2.x.frozen q (by omega)
             clear hcl2 hd3
             go_wp2_with fail
             go_roundw
             case rel=>exact⟨q+1,by omega,by omega,by go_num,HCL2.out.set q (by omega) true (range_step X (s[i]'hii) q (by omega) hq1)⟩
             case measure=>simp[intOf]<;>omega
            ·have p1:num (s[i+2]'hn2)<(q:Int):=by simp only[num];omega
             have p1n:(s[i+2]'hn2).toNat < q:=by omega
             have HQ:=Lib.hid (show q=(s[i+2]'hn2).toNat + 1 from by omega)
             clear hcl2 hd3
             go_wp2_with fail
             go_roundw
             case rel=>exact⟨i+3,X++rangeB (s[i]'hii) (s[i+2]'hn2),by omega,by omega,by go_num,by rw[show i+3-F=n+3 from by have:=HN.out;omega];simpa using HNX.out,by have:=HCL2.out;rw[HQ.out]at this;exact this⟩
             case measure=>simp[intOf]<;>omega
        ·-- the text ends
         have m1:(s.size:Int)<=(i:Int)+2:=by omega
         have HNI:=Lib.hid (items_dash HAT.out _ HC.out HCH.out HN45.out HD.out (isRange_end _ _ _ (by have:=HTL.out;have:=HN.out;omega)))
         have HNB:=Lib.hid (show T[n+1]?≠some 93 from by rw[HD.out];decide)
         go_upto_region 13 with(first|(go_at_call 93;(with_reducible refine(rf_char _ _).mono ?_);rintro e w' ⟨rfl,rfl⟩;rw[HCH.out])|(go_at_call 116;(with_reducible refine(rf_alnum _ _).mono ?_);rintro e w' ⟨rfl,rfl⟩))
         go_wp2_with (first|(refine wpList_loadE rfl _ rfl hCx rfl ?_;intro V HV)|(refine wpList_storeE rfl _ _ rfl hCr rfl HV rfl ?_;intro W HW))
         refine bodyPost_ret (results_E rfl _ _ w.heap.size false _ _ rfl rfl (by rw[HW.out];exact HCLS.out.ret.1) Tryz.underlying176 rfl (size_E _ _)) rfl ?_
         exact rclass_no (HNO.out _ (n+1) HNI.out (.inr HNB.out)) (by rw[HW.out];exact HCLS.out.ret.2)
      ·have k1:(s.size:Int)<=(i:Int)+1:=by omega
       have HR:=Lib.hid (show isRange (s[i]'hii) (T.drop (n+1))=false from isRange_end _ _ _ (by have:=HTL.out;have:=HN.out;omega))
       have HNX:=Lib.hid (items_one HAT.out _ HC.out HR.out (plain_char HCH.out HN45.out))
       have e0:=hCx.cell (s[i]'hii).toNat HCL.out
       have e1:=hCx.frozen (s[i]'hii).toNat HCL.out
       have e2:(num (s[i]'hii)).toNat = (s[i]'hii).toNat:=by simp[num]
       go_wp2_with (first|(go_at_call 93;(with_reducible refine(rf_char _ _).mono ?_);rintro e w' ⟨rfl,rfl⟩;rw[HCH.out])|(go_at_call 116;(with_reducible refine(rf_alnum _ _).mono ?_);rintro e w' ⟨rfl,rfl⟩))
       go_roundw
       case rel=>exact⟨i+1,X ++ [s[i]'hii],by omega,by omega,by go_num,by rw[show i+1-F=n+1 from by have:=HN.out;omega];simpa using HNX.out,HCLS.out.set _ HCL.out true (setF_snoc X (s[i]'hii))⟩
       case measure=>simp[intOf]<;>omega
     ·have h45':(num (s[i]'hii) != 45)=false:=by simp[bne,h45]
      have HE45:=Lib.hid (show(s[i]'hii)=45 from by rw[num45]at h45;simpa using h45)
      by_cases hn0:n=0
      ·have l128:num (s[i]'hii)<128:=by have:=HCL.out;simp only[num];omega
       have l0:(0:Int)<=num (s[i]'hii):=by simp only[num];omega
       have g1:(i:Int)<=(F:Int):=by have:=HN.out;omega
       have g2:decide ((F:Int)<(i:Int))=false:=by have:=HN.out;simp;omega
       have HNX:=Lib.hid (items_one HAT.out _ HC.out (isRange_no _ _ (by rw[HE45.out];decide)) (by rw[HE45.out];simp[hn0];decide))
       have e0:=hCx.cell (s[i]'hii).toNat HCL.out
       have e1:=hCx.frozen (s[i]'hii).toNat HCL.out
       have e2:(num (s[i]'hii)).toNat = (s[i]'hii).toNat:=by simp[num]
       go_wp2_with (first|(go_at_call 93;(with_reducible refine(rf_char _ _).mono ?_);rintro e w' ⟨rfl,rfl⟩;rw[HCH.out])|(go_at_call 116;(with_reducible refine(rf_alnum _ _).mono ?_);rintro e w' ⟨rfl,rfl⟩))
       go_roundw
       case rel=>exact⟨i+1,X ++ [s[i]'hii],by omega,by omega,by go_num,by rw[show i+1-F=n+1 from by have:=HN.out;omega];simpa using HNX.out,HCLS.out.set _ HCL.out true (setF_snoc X (s[i]'hii))⟩
       case measure=>simp[intOf]<;>omega
      ·have g1:(F:Int)<(i:Int):=by have:=HN.out;omega
       have g2:decide ((F:Int)<(i:Int))=true:=by have:=HN.out;simp;omega
       have HNI:=Lib.hid (items_stop HAT.out _ HC.out (isRange_no _ _ (by rw[HE45.out];decide)) (by rw[HE45.out];simp[hn0];decide))
       go_upto_region 10 with(first|(go_at_call 93;(with_reducible refine(rf_char _ _).mono ?_);rintro e w' ⟨rfl,rfl⟩;rw[HCH.out])|(go_at_call 116;(with_reducible refine(rf_alnum _ _).mono ?_);rintro e w' ⟨rfl,rfl⟩))
       go_wp2_with (first|(refine wpList_loadE rfl _ rfl hCx rfl ?_;intro V HV)|(refine wpList_storeE rfl _ _ rfl hCr rfl HV rfl ?_;intro W HW))
       refine bodyPost_ret (results_E rfl _ _ w.heap.size false _ _ rfl rfl (by rw[HW.out];exact HCLS.out.ret.1) Tryz.underlying176 rfl (size_E _ _)) rfl ?_
       exact rclass_no (HNO.out X n HNI.out (.inr (by rw[HC.out];exact HNE.out))) (by rw[HW.out];exact HCLS.out.ret.2)
   ·-- the end of the class
    have h93':(num (s[i]'hii) != 93)=false:=by simp[bne,h93]
    have HE93:=Lib.hid (show T[n]?=some 93 from by rw[HC.out];rw[num93]at h93;simpa using h93)
    have HE:=Lib.hid (show(s[i]'hii)=93 from by rw[num93]at h93;simpa using h93)
    have HNI:=Lib.hid (items_stop HAT.out _ HC.out (isRange_no _ _ (by rw[HE.out];decide)) (by rw[HE.out];cases decide (n=0)<;>decide))
    clear h93
    by_cases hn0:n=0
    ·have g1:((i:Int)==(F:Int))=true:=by have:=HN.out;rw[beq_iff_eq];omega
     go_upto_region 22 with(first|(go_at_call 93;(with_reducible refine(rf_char _ _).mono ?_);rintro e w' ⟨rfl,rfl⟩;rw[HCH.out])|(go_at_call 116;(with_reducible refine(rf_alnum _ _).mono ?_);rintro e w' ⟨rfl,rfl⟩))
     go_wp2_with (first|(refine wpList_loadE rfl _ rfl hCx rfl ?_;intro V HV)|(refine wpList_storeE rfl _ _ rfl hCr rfl HV rfl ?_;intro W HW))
     refine bodyPost_ret (results_E rfl _ _ w.heap.size false _ _ rfl rfl (by rw[HW.out];exact HCLS.out.ret.1) Tryz.underlying176 rfl (size_E _ _)) rfl ?_
     exact rclass_no (HNO.out X n HNI.out (.inl hn0)) (by rw[HW.out];exact HCLS.out.ret.2)
    ·have g1:((i:Int)==(F:Int))=false:=beq_eq_false_iff_ne.2 (by have:=HN.out;omega)
     have HY:=Lib.hid (HYES.out X n HNI.out hn0 HE93.out)
     have hcx:=HCLS.out.x;have hcr:=HCLS.out.res
     go_upto_region 28 with fail
     go_wp2_with (first|(refine wpList_loadE rfl _ rfl hcx rfl ?_;intro V HV)|(refine wpList_storeE rfl _ _ rfl hcr rfl HV rfl ?_;intro W HW))
     refine bodyPost_ret (results_E rfl _ _ w.heap.size false _ _ rfl rfl (by rw[HW.out];exact HCLS.out.ret.1) Tryz.underlying176 rfl (size_E _ _)) rfl ?_
     exact rclass_yes HY.out (setF_pos X (HCHS.out X n HNI.out)) _ (by have:=HF.out;have:=HN.out;omega) (by rw[HW.out];exact HCLS.out.ret.2)
  ·-- the text ends
   have HNI:=Lib.hid (items_end HAT.out (by rw[HTL.out];have:=HN.out;omega))
   have HNB:=Lib.hid (show T[n]?≠some 93 from by rw[List.getElem?_eq_none (by rw[HTL.out];have:=HN.out;omega)];simp)
   have j2:(s.size:Int)<=(i:Int):=by omega
   clear hii
   go_upto_region 22 with(first|(go_at_call 93;(with_reducible refine(rf_char _ _).mono ?_);rintro e w' ⟨rfl,rfl⟩;rw[HCH.out])|(go_at_call 116;(with_reducible refine(rf_alnum _ _).mono ?_);rintro e w' ⟨rfl,rfl⟩))
   go_wp2_with (first|(refine wpList_loadE rfl _ rfl hCx rfl ?_;intro V HV)|(refine wpList_storeE rfl _ _ rfl hCr rfl HV rfl ?_;intro W HW))
   refine bodyPost_ret (results_E rfl _ _ w.heap.size false _ _ rfl rfl (by rw[HW.out];exact HCLS.out.ret.1) Tryz.underlying176 rfl (size_E _ _)) rfl ?_
   exact rclass_no (HNO.out X n HNI.out (.inr HNB.out)) (by rw[HW.out];exact HCLS.out.ret.2)
end Go.Proofs.YtannhfnpigiggaaGreatDoor
