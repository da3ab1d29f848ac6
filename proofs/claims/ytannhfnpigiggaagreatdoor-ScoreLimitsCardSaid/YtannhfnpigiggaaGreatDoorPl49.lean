import Derived.Test.YtannhfnpigiggaaGreatDoorPl42
import Derived.Test.YtannhfnpigiggaaGreatDoorPl46
import Derived.Test.YtannhfnpigiggaaGreatDoorPl48
namespace Go.Proofs.YtannhfnpigiggaaGreatDoor
set_option linter.unusedSimpArgs false
set_option linter.unusedVariables false
open Go.RowKit
theorem toL_cat(a b:ByteArray):toL (a++b)=toL a++toL b:=by simp[toL]
theorem info_u8L:(Tryz.prog.info? 5).map (fun i=>(i.zero,i.size,i.bytes))=some (some (.int .u8 0),1,1):=by kernel_rfl
theorem made_u8(n:Nat):madeCells (Value.int .u8 0).cells n=(List.replicate n (Value.int .u8 0)).toArray:=by
 apply Array.ext'
 apply List.ext_getElem
 ·simp[madeCells]
 ·intro k h1 h2
  have:k%1=0:=by omega
  simp[madeCells,Value.cells,this]
theorem mk_u8(n:Nat)(l:Int)(hl:l=n)(hn:n<=1000000)(w:World):(Instr.makeSlice 50 (.int .i64 l) (.int .i64 l)).run Tryz.prog w=.ok (.slice (some ⟨w.heap.size,0,none⟩) n n) (w.alloc (.cells (Array.replicate n (.int .u8 0)) 5)):=by
 subst hl
 obtain⟨i,hi,h0,h1,h2⟩:=info_parts info_u8L
 rw[run_makeSlice (P:=Tryz.prog) w 50 5 i (.int .u8 0) Tryz.underlying50 hi h0 .i64 .i64 n n (by omega) (by omega) (by rw[h1];simp;omega) (by rw[h2];simp;omega) (by omega),h1,Int.toNat_natCast,Nat.mul_one,made_u8,List.toArray_replicate]
structure NlAt(w:World)(g N i:Nat)(wr:World):Prop where
 blk:∃cs:Array Value,wr.heap[g]?=some (.cells cs 5 (0,0))/\cs.size=N/\(∀j,j<i->cs[j]?=some (.int .u8 10))
 bel:Below w.heap.size w wr
 ge:w.heap.size<=g
section
variable {w wr : World} {g N i : Nat}
theorem NlAt.cell(h:NlAt w g N i wr)(hi:i<N):(∃v,wr.cell? ⟨g,i,none⟩=some v)/\wr.frozen? ⟨g,i,none⟩=false/\g<wr.heap.size:=by
 obtain⟨cs,h1,h2,_⟩:=h.blk
 refine⟨⟨cs[i]'(by omega),?_⟩,Lib.frozen_of_heap h1 i,heap_lt h1⟩
 rw[Lib.cell_of_heap h1]
 simp[h2,hi]
theorem NlAt.set(h:NlAt w g N i wr)(hi:i<N):NlAt w g N (i+1) (wr.setCell ⟨g,i,none⟩ (.int .u8 10)):=by
 obtain⟨cs,h1,h2,h3⟩:=h.blk
 refine⟨⟨cs.setIfInBounds i (.int .u8 10),?_,by simp[h2],fun j hj=>?_⟩,h.bel.setCell (p:=⟨g,i,none⟩) h.ge _,h.ge⟩
 ·rw[heap_set h1]
 ·by_cases q:j=i
  ·subst q
   simp[Array.getElem?_setIfInBounds,h2,hi]
  ·rw[Array.getElem?_setIfInBounds_ne (by omega)]
   exact h3 j (by omega)
theorem NlAt.conv(h:NlAt w g N N wr):(convert 50 9 (.slice (some ⟨g,0,none⟩) N N)).run Tryz.prog wr=.ok (.string (ofL (List.replicate N 10))) wr:=by
 obtain⟨cs,h1,h2,h3⟩:=h.blk
 have:=run_convert_bytes_back (P:=Tryz.prog) wr 50 9 5 ⟨g,0,none⟩ N (List.replicate N (10:UInt8)) Tryz.underlying50 Tryz.underlying5 Tryz.underlying9 (fun j hj=>by
  have e:(⟨g,0,none⟩:Addr).add j=⟨g,j,none⟩:=by
   unfold Addr.add;split
   ·rename_i h;subst h;rfl
   ·simp
  rw[e,Lib.cell_of_heap h1]
  have hj2:j<N:=by simpa using hj
  simp only[List.getElem_replicate]
  exact h3 j hj2)
 rwa [List.length_replicate]at this
end
def WtR(m:Nat)(p:Option Addr)(li co er:Int)(w:World):Prop:=(m<=4/\er=0/\∃rb,p=some ⟨rb,0,none⟩/\RulesIn w rb (List.replicate (196+m) ruW))\/(4<m/\er=9/\li=201/\co=1)
theorem WtR.below{m:Nat}{p:Option Addr}{li co er:Int}{w w':World}(h:WtR m p li co er w)(hb:Below w.heap.size w w'):WtR m p li co er w':=by
 rcases h with⟨h1,h2,rb,h3,h4⟩|h
 ·exact .inl ⟨h1,h2,rb,h3,h4.below hb⟩
 ·exact .inr h
theorem pa_watch{S:ByteArray}{m:Nat}(hw:toL S=watchL (196+m))(hm:m<8)(w:World)(hsh:w.ShapedOpen Tryz.prog):Calls Tryz.prog 11 #[.string S] w fun e w'=>∃(p:Option Addr) (li co er:Int),e=.returned (.tuple #[.pointer p,.int .i64 li,.int .i64 co,.int .i64 er])/\WtR m p li co er w'/\Below w.heap.size w w':=by
 have h:=parse_watch (196+m) (by omega)
 rw[<-hw]at h
 by_cases h4:m<=4
 ·rw[if_pos (by omega)]at h
  exact(pa_ok hsh h).mono fun e w' ⟨rb,h1,h2,h3⟩=>⟨_,_,_,_,h1,.inl ⟨h4,rfl,rb,rfl,h2⟩,h3⟩
 ·rw[if_neg (by omega)]at h
  exact(pa_err hsh h).mono fun e w' ⟨h1,h3⟩=>⟨_,_,_,_,h1,.inr ⟨by omega,rfl,rfl,rfl⟩,h3⟩
theorem both_deep{S:ByteArray}{d:Nat}(hw:toL S=ladL (28+d))(hd:d<8):∃LI CO ER:Int,(ER==0)=decide ((28:Int)+(d:Int)<=32) ∧
  (∀(w:World),w.ShapedOpen Tryz.prog->Calls Tryz.prog 11 #[.string S] w fun e w'=>∃p:Option Addr,e=.returned (.tuple #[.pointer p,.int .i64 LI,.int .i64 CO,.int .i64 ER])/\Below w.heap.size w w') ∧
  (∀(w:World),Calls Tryz.prog 21 #[.string S] w fun e w'=>∃A n c,e=.returned (.tuple #[.slice A n c,.int .i64 LI,.int .i64 CO,.int .i64 ER])/\Below w.heap.size w w'):=by
 by_cases h4:d<=4
 ·obtain⟨l,hl⟩:=lad_ok (d:=28+d) (by omega) (by omega)
  rw[<-hw]at hl
  refine⟨0,0,0,?_,fun w hsh=>?_,fun w=>?_⟩
  ·rw[decide_eq_true (by omega)];rfl
  ·exact(pa_ok hsh hl).mono fun e w' ⟨rb,h1,_,h3⟩=>⟨_,h1,h3⟩
  ·exact(rf_parse S w hl).mono fun e w' ⟨A,c,vs,h1,_,h3⟩=>⟨_,_,_,h1,h3⟩
 ·have hl:=lad_err (d:=28+d) (by omega) (by omega)
  obtain⟨ts,t1,c1,c2,c3,c4,c5⟩:=chkL_ok (lad_chk (d:=28+d) (by omega) (by omega))
  obtain⟨l1,l2,l3⟩:=lad_line (d:=28+d) (by omega) (by omega)
  rw[<-hw]at hl c1 l1 l2 l3
  refine⟨1,89,9,?_,fun w hsh=>?_,fun w=>?_⟩
  ·rw[decide_eq_false (by omega)];rfl
  ·exact(pa_err hsh hl).mono fun e w' ⟨h1,h3⟩=>⟨_,h1,h3⟩
  ·have hz:=of_decide_eq_true l3
   rw[toL_length]at hz
   exact(fl_parse S w (by omega) (fun j hj=>by
    have:=List.all_eq_true.1 l1 _ (List.getElem_mem hj)
    simpa using this) l2 c1 c2 c3 c4 c5).mono fun e w' ⟨h1,h3⟩=>⟨_,_,_,h1,h3⟩
theorem pa_nl(N:Nat)(w:World)(hsh:w.ShapedOpen Tryz.prog):∃ER:Int,(ER==0)=decide ((N:Int)<=65536)/\((ER==0) || (ER==5))=true/\∀(w:World),w.ShapedOpen Tryz.prog->Calls Tryz.prog 11 #[.string (ofL (List.replicate N 10))] w fun e w'=>∃(p:Option Addr) (li co:Int),e=.returned (.tuple #[.pointer p,.int .i64 li,.int .i64 co,.int .i64 ER])/\Below w.heap.size w w':=by
 have h:=parse_nl N
 by_cases h4:65536<N
 ·rw[if_pos h4]at h
  refine⟨5,?_,rfl,fun w hsh=>?_⟩
  ·rw[decide_eq_false (by omega)];rfl
  ·exact(pa_err (s:=ofL (List.replicate N 10)) hsh h).mono fun e w' ⟨h1,h3⟩=>⟨_,_,_,h1,h3⟩
 ·rw[if_neg h4]at h
  refine⟨0,?_,rfl,fun w hsh=>?_⟩
  ·rw[decide_eq_true (by omega)];rfl
  ·exact(pa_ok (s:=ofL (List.replicate N 10)) hsh h).mono fun e w' ⟨rb,h1,_,h3⟩=>⟨_,_,_,h1,h3⟩
def ladP(i:Nat):Bs := [107,105,108,108,32,105,102,32]++((List.range i).flatMap fun i=>if i%2=0 then [110,111,116,32] else [40])
theorem ladP_even{i:Nat}(h:i%2=0):ladP (i+1)=ladP i ++ [110,111,116,32]:=by
 unfold ladP
 rw[List.range_succ,List.flatMap_append,List.append_assoc,List.flatMap_cons,List.flatMap_nil,if_pos h,List.append_nil]
theorem ladP_odd{i:Nat}(h:¬ i%2=0):ladP (i+1)=ladP i ++ [40]:=by
 unfold ladP
 rw[List.range_succ,List.flatMap_append,List.append_assoc,List.flatMap_cons,List.flatMap_nil,if_neg h,List.append_nil]
theorem ladP_len:∀i,(ladP i).length<=8+4*i
 | 0=>by decide
 | i+1=>by
  have:=ladP_len i
  by_cases h:i%2=0
  ·rw[ladP_even h,List.length_append];simp;omega
  ·rw[ladP_odd h,List.length_append];simp;omega
def ladQ(d i:Nat):Bs:=ladP d ++ [97,103,101,32,61,32,49]++List.replicate i 41
theorem ladQ_succ(d i:Nat):ladQ d (i+1)=ladQ d i ++ [41]:=by
 unfold ladQ
 rw[List.replicate_succ', ← List.append_assoc]
theorem ladQ_end(d:Nat):ladQ d (d / 2)=ladL d:=rfl
theorem ladQ_len(d i:Nat):(ladQ d i).length<=15+4*d+i:=by
 unfold ladQ
 have:=ladP_len d
 simp only[List.length_append,List.length_replicate,List.length_cons,List.length_nil]
 omega
def WtS(S:ByteArray)(L:Bs):Prop:=toL S=L
theorem WtS.size{S:ByteArray}{L:Bs}(h:WtS S L):S.size=L.length:=by rw[<-toL_length,h]
theorem u8_range{x:Int}(h:(Lit.int .u8 x).wf=true):0<=x/\x<=255:=by
 have h1:IntKind.u8.min=0:=by decide
 have h2:IntKind.u8.max=255:=by decide
 simp only[Lit.wf,Bool.and_eq_true,decide_eq_true_eq]at h
 rw[h1,h2]at h
 omega
set_option maxHeartbeats 16000000 in
set_option maxRecDepth 100000 in
theorem ScoreLimits_walk(x:Int)(hx:(Lit.int .u8 x).wf=true)(y:Int)(hy:(Lit.int .u8 y).wf=true)(z:Int)(hz:(Lit.int .u8 z).wf=true)(w:World)(hsh:w.ShapedOpen Tryz.prog)(ht:TabN w) :
  Calls Tryz.prog 6 #[.int .u8 x,.int .u8 y,.int .u8 z] w fun e w'=>e=.returned (.bool true)/\Below w.heap.size w w':=by
 obtain⟨x0,x1⟩:=u8_range hx
 obtain⟨y0,y1⟩:=u8_range hy
 obtain⟨z0,z1⟩:=u8_range hz
 clear hx hy hz
 obtain⟨m,hm⟩:∃m:Nat,x.tmod 8=(m:Int):=⟨(x.tmod 8).toNat,by rw[Int.tmod_eq_emod_of_nonneg x0];omega⟩
 have hm8:m<8:=by rw[Int.tmod_eq_emod_of_nonneg x0]at hm;omega
 obtain⟨d,hd⟩:∃m:Nat,y.tmod 8=(m:Int):=⟨(y.tmod 8).toNat,by rw[Int.tmod_eq_emod_of_nonneg y0];omega⟩
 have hd8:d<8:=by rw[Int.tmod_eq_emod_of_nonneg y0]at hd;omega
 obtain⟨q,hq⟩:∃m:Nat,z.tmod 8=(m:Int):=⟨(z.tmod 8).toNat,by rw[Int.tmod_eq_emod_of_nonneg z0];omega⟩
 have hq8:q<8:=by rw[Int.tmod_eq_emod_of_nonneg z0]at hq;omega
 have HKN:=Lib.hid (fun wx (hx:Below w.heap.size w wx)=>law_known wx (shaped_below hsh hx) (ht.below hx))
 have HSH:=Lib.hid hsh
 have HQ:=Lib.hid hq
 clear hsh ht hq
 go_enter Tryz.func6,Tryz.ntmps6
 go_wp2_with fail
 go_loop [9,10] (fun v9 v10=>∃(i:Nat) (S:ByteArray),i<=196+m/\v9=.string S/\v10=.int .i64 (i:Int)/\WtS S (watchL i)) (fun _ v10=>196+m-(intOf v10).toNat)
 case atStart=>exact⟨0,⟨#[]⟩,by omega,rfl,rfl,rfl⟩
 case round =>
  obtain⟨i,S,hi,rfl,rfl,hw⟩:=hrel
  have hS:S.size<=1300:=by have:=hw.size;rw[watchL_length]at this;omega
  have HW:=Lib.hid hw
  clear hw
  have i0:(0:Int)<=(i:Int):=by omega
  by_cases hlt:i<196+m
  ·have i1:(i:Int)<196+(m:Int):=by omega
   go_wp2_with fail
   go_round
   case rel=>exact⟨i+1,_,by omega,rfl,by go_num,by unfold WtS;rw[toL_cat,watchL_snoc];have:=HW.out;unfold WtS at this;rw[this];rfl⟩
   case measure=>simp[intOf]<;>omega
  ·have i1:196+(m:Int)<=(i:Int):=by omega
   have HP:=Lib.hid (fun wx hw=>pa_watch (S:=S) (m:=m) (by have:=HW.out;unfold WtS at this;rw[this,show i=196+m by omega]) hm8 wx hw)
   clear HW
   go_upto_region 8 with(go_at_call 11;(with_reducible refine(HP.out _ HSH.out).mono ?_);rintro e w1 ⟨p1,li,co,er,rfl,hr1,hb1⟩;have HR1:=Lib.hid hr1;have HB1:=Lib.hid hb1;clear hr1 hb1)
   go_cut [80] (fun s80 wx=>s80=.bool false/\Below w.heap.size w wx)
   case first =>
    have HR2:=Lib.hid (fun wx (hb:Below w1.heap.size w1 wx)=>HR1.out.below hb)
    rcases HR1.out with⟨h4,rfl,rb,rfl,hrb⟩|⟨h4,rfl,rfl,rfl⟩
    ·have k1:decide ((196:Int)+(m:Int)<=200)=true:=decide_eq_true (by omega)
     have k2:¬ (200:Int)<196+(m:Int):=by omega
     have HLE:=Lib.hid (fun wx (hb:Below w1.heap.size w1 wx)=>show Calls Tryz.prog 20 #[.pointer (some ⟨rb,0,none⟩)] wx (fun e w'=>e=.returned (.int .i64 (196+(m:Int)))/\wx=w') from by
      have:=sc_len (hrb.below hb)
      rw[List.length_replicate,show((196+m:Nat):Int)=196+(m:Int) by omega]at this
      exact this)
     clear hrb HR2 HR1
     go_wp2_with (first
      | (go_at_call 13;(with_reducible refine(HKN.out _ HB1.out).mono ?_);rintro e w2 ⟨rfl,hb2⟩;have HB2:=Lib.hid (HB1.out.trans (hb2.mono HB1.out.size));have HB3:=Lib.hid hb2;clear hb2)
      | (go_at_call 20;(with_reducible refine(HLE.out _ HB3.out).mono ?_);rintro e w3 ⟨rfl,rfl⟩))
     go_meet
     exact⟨rfl,HB2.out⟩
    ·have k1:decide ((196:Int)+(m:Int)<=200)=false:=decide_eq_false (by omega)
     have k2:(200:Int)<196+(m:Int):=by omega
     clear HR2 HR1
     go_wp2_with ((go_at_call 13;(with_reducible refine(HKN.out _ HB1.out).mono ?_);rintro e w2 ⟨rfl,hb2⟩;have HB2:=Lib.hid (HB1.out.trans (hb2.mono HB1.out.size));clear hb2))
     go_meet
     exact⟨rfl,HB2.out⟩
   case rest =>
    obtain⟨rfl,hbc⟩:=hcut
    have HBC:=Lib.hid hbc
    clear hbc HR1 HB1 HP
    go_wp2_with fail
    go_loop [15,16] (fun v15 v16=>∃(i:Nat) (S:ByteArray),i<=28+d/\v15=.string S/\v16=.int .i64 (i:Int)/\WtS S (ladP i)) (fun _ v16=>28+d-(intOf v16).toNat)
    case atStart=>exact⟨0,_,by omega,rfl,rfl,rfl⟩
    case round =>
     obtain⟨j,S2,hj,rfl,rfl,hw⟩:=hrel
     have hS2:S2.size<=200:=by have:=hw.size;have:=ladP_len j;omega
     have HW:=Lib.hid hw
     clear hw
     have j0:(0:Int)<=(j:Int):=by omega
     by_cases hlt2:j<28+d
     ·have j1:(j:Int)<28+(d:Int):=by omega
      by_cases hp:j%2=0
      ·have HPA:=Lib.hid hp
       have j2:(j:Int).tmod 2=0:=by rw[Int.tmod_eq_emod_of_nonneg j0];omega
       clear hp
       go_wp2_with fail
       go_round
       case rel=>exact⟨j+1,_,by omega,rfl,by go_num,by unfold WtS;rw[toL_cat,ladP_even HPA.out];have:=HW.out;unfold WtS at this;rw[this];rfl⟩
       case measure=>simp[intOf]<;>omega
      ·have HPA:=Lib.hid hp
       have j2:(j:Int).tmod 2=1:=by rw[Int.tmod_eq_emod_of_nonneg j0];omega
       clear hp
       go_wp2_with fail
       go_round
       case rel=>exact⟨j+1,_,by omega,rfl,by go_num,by unfold WtS;rw[toL_cat,ladP_odd HPA.out];have:=HW.out;unfold WtS at this;rw[this];rfl⟩
       case measure=>simp[intOf]<;>omega
     ·have j1:28+(d:Int)<=(j:Int):=by omega
      obtain⟨H,hH⟩:∃H,(28+d) / 2=H:=⟨_,rfl⟩
      have hH2:((28:Int)+(d:Int)).tdiv 2=(H:Int):=by rw[Int.tdiv_eq_ediv_of_nonneg (by omega)];omega
      have HWQ:=Lib.hid (show WtS (S2++⟨#[97,103,101,32,61,32,49]⟩) (ladQ (28+d) 0) from by
       unfold WtS
       have:=HW.out
       unfold WtS at this
       rw[toL_cat,this,show j=28+d by omega]
       unfold ladQ
       rw[List.replicate_zero,List.append_nil];rfl)
      have HHH:=Lib.hid hH
      have hH3:H<=20:=by omega
      clear HW hH
      go_wp2_with fail
      go_loop [15,17] (fun v15 v17=>∃(i:Nat) (S:ByteArray),i<=H/\v15=.string S/\v17=.int .i64 (i:Int)/\WtS S (ladQ (28+d) i)) (fun _ v17=>H-(intOf v17).toNat)
      case atStart=>exact⟨0,_,by omega,rfl,rfl,HWQ.out⟩
      case round =>
       obtain⟨k,S3,hk,rfl,rfl,hw⟩:=hrel
       have hS3:S3.size<=300:=by have:=hw.size;have:=ladQ_len (28+d) k;omega
       have HW:=Lib.hid hw
       clear hw HWQ
       have k0:(0:Int)<=(k:Int):=by omega
       by_cases hlt3:k<H
       ·have k1:(k:Int)<(H:Int):=by omega
        go_wp2_with fail
        go_round
        case rel=>exact⟨k+1,_,by omega,rfl,by go_num,by unfold WtS;rw[toL_cat,ladQ_succ];have:=HW.out;unfold WtS at this;rw[this];rfl⟩
        case measure=>simp[intOf]<;>omega
       ·have k1:(H:Int)<=(k:Int):=by omega
        obtain⟨LI,CO,ER,hER,hP,hR⟩:=both_deep (S:=S3) (d:=d) (by have:=HW.out;unfold WtS at this;rw[this,show k=(28+d) / 2 by have:=HHH.out;omega,ladQ_end]) hd8
        have HP2:=Lib.hid hP
        have HR2:=Lib.hid hR
        have HER:=Lib.hid hER
        clear hP hR hER HW
        go_upto_region 24 with(first
         | (go_at_call 11;(with_reducible refine(HP2.out _ (shaped_below HSH.out HBC.out)).mono ?_);rintro e w3 ⟨p3,rfl,hb3⟩;have HB3:=Lib.hid (HBC.out.trans (hb3.mono HBC.out.size));clear hb3)
         | (go_at_call 21;(with_reducible refine(HR2.out _).mono ?_);rintro e w4 ⟨A4,n4,c4,rfl,hb4⟩;have HB4:=Lib.hid (HB3.out.trans (hb4.mono HB3.out.size));clear hb4))
        go_cut [136] (fun s136 wx=>s136=.bool false/\w4=wx)
        case first =>
         have hE:=HER.out
         obtain⟨qq,hqq⟩:∃qq,decide ((28:Int)+(d:Int)<=32)=qq:=⟨_,rfl⟩
         rw[hqq]at hE
         cases qq
         ·go_wp2_with fail
          go_meet
          exact⟨rfl,rfl⟩
         ·go_wp2_with fail
          go_meet
          exact⟨rfl,rfl⟩
        case rest =>
         obtain⟨rfl,hwc⟩:=hcut
         subst hwc
         clear HB3 HP2 HR2 HER
         have hqz:=HQ.out
         obtain⟨N,hN⟩:∃N,65532+q=N:=⟨_,rfl⟩
         have hmk:∀wx,(Instr.makeSlice 50 (.int .i64 (65532+(q:Int))) (.int .i64 (65532+(q:Int)))).run Tryz.prog wx=.ok (.slice (some ⟨wx.heap.size,0,none⟩) N N) (wx.alloc (.cells (Array.replicate N (.int .u8 0)) 5)):=fun wx=>mk_u8 N _ (by omega) (by omega) wx
         have HL0:=Lib.hid (show NlAt w w4.heap.size N 0 (w4.alloc (.cells (Array.replicate N (.int .u8 0)) 5)) from⟨⟨_,heap_alloc_new w4 _,by simp,fun j hj=>by omega⟩,HB4.out.alloc HB4.out.size _,HB4.out.size⟩)
         have hN1:N<=65539:=by omega
         clear hN
         go_upto_region 27 with fail
         generalize w4.alloc (.cells (Array.replicate N (.int .u8 0)) 5)=W5 at *
         generalize w4.heap.size=g at *
         clear hmk hqz
         go_wp2_with fail
         go_loopw [23] (fun v23 wr=>∃i:Nat,i<=N/\v23=.int .i64 (i:Int)/\NlAt w g N i wr) (fun v23 _=>N-(intOf v23).toNat)
         case atStart=>exact⟨0,by omega,rfl,HL0.out⟩
         case round =>
          obtain⟨u,hu,rfl,hnl⟩:=hrel
          have HNL:=Lib.hid hnl
          clear hnl HL0
          have u0:(0:Int)<=(u:Int):=by omega
          by_cases hlt4:u<N
          ·have u1:(u:Int)<(N:Int):=by omega
           obtain⟨⟨v,c0⟩,f0,g0⟩:=HNL.out.cell hlt4
           have HNS:=Lib.hid (HNL.out.set hlt4)
           go_wp2_with fail
           go_roundw
           case rel=>exact⟨u+1,by omega,by go_num,HNS.out⟩
           case measure=>simp[intOf]<;>omega
          ·have u1:(N:Int)<=(u:Int):=by omega
           obtain rfl:u=N:=by omega
           have hcv:=HNL.out.conv
           have HB6:=Lib.hid HNL.out.bel
           obtain⟨E2,h1,h2,hP⟩:=pa_nl u wr (shaped_below HSH.out HB6.out)
           have HP6:=Lib.hid hP
           clear hP
           generalize ofL (List.replicate u 10)=BB at *
           clear HNL
           obtain⟨qq,hqq⟩:∃qq,decide ((u:Int)<=65536)=qq:=⟨_,rfl⟩
           rw[hqq]at h1
           cases qq
           ·rw[h1,Bool.false_or]at h2
            go_wp2_with (go_at_call 11;(with_reducible refine(HP6.out _ (shaped_below HSH.out HB6.out)).mono ?_);rintro e w7 ⟨p7,i7,j7,rfl,hb7⟩;have HB7:=Lib.hid (HB6.out.trans (hb7.mono HB6.out.size));clear hb7)
            go_ret
            exact⟨rfl,HB7.out⟩
           ·go_wp2_with (go_at_call 11;(with_reducible refine(HP6.out _ (shaped_below HSH.out HB6.out)).mono ?_);rintro e w7 ⟨p7,i7,j7,rfl,hb7⟩;have HB7:=Lib.hid (HB6.out.trans (hb7.mono HB6.out.size));clear hb7)
            go_ret
            exact⟨rfl,HB7.out⟩
end Go.Proofs.YtannhfnpigiggaaGreatDoor
