import Derived.Test.YtannhfnpigiggaaGreatDoorPl25
import Derived.Laws.Cover3
namespace Go.Proofs.YtannhfnpigiggaaGreatDoor
set_option linter.unusedSimpArgs false
set_option linter.unusedVariables false
open Go.RowKit
attribute [local go_sem ↓] fld_tok0 fld_tok1 fld_tok3
def whoL:List Bs := [wAuthor,wGroup]
def isL:List Bs := [wIs]
theorem whoF_eq(ts:List Tok):whoF ts=bindE (oneF whoL ts) fun f=>bindE (oneF isL f.2) fun i=>bindE (quoF i.2) fun q =>
 if f.1=wGroup then (if (compF q.1.text).2.2≠0 then .error (q.1.col,3) else .ok (.grp q.1.text,q.2))
 else (if authB q.1.text then .ok (.auth q.1.text,q.2) else .error (q.1.col,3)):=rfl
theorem list16{α:Type}(l:List α)(h:l.length=16):∃a0 a1 a2 a3 a4 a5 a6 a7 a8 a9 aA aB aC aD aE aF,l=[a0,a1,a2,a3,a4,a5,a6,a7,a8,a9,aA,aB,aC,aD,aE,aF] :=
 match l,h with
 | [a0,a1,a2,a3,a4,a5,a6,a7,a8,a9,aA,aB,aC,aD,aE,aF],_=>⟨a0,a1,a2,a3,a4,a5,a6,a7,a8,a9,aA,aB,aC,aD,aE,aF,rfl⟩
theorem size_Au:(Tryz.prog.info? 23).map (·.size)=some 16:=by kernel_rfl
theorem range_loadS{W:World}{B off:Nat}{T:TypeId}{cs:List Value}{fs:TypeDesc}(h:W.rangeAt B off cs)(hu:Tryz.prog.underlying T=some fs)(ha:fs.isRow=true)(hs:(Tryz.prog.info? T).map (·.size)=some cs.length):(Instr.loadAt T (.pointer (some ⟨B,off,none⟩))).run Tryz.prog W=.ok (.agg cs.toArray) W:=by
 have hl:=run_loadVar_mid (P:=Tryz.prog) W B off T cs _ h hu ha hs
 unfold Instr.loadAt
 rw[show(Instr.sureAddr (.pointer (some ⟨B,off,none⟩)):Sem Addr)=pure ⟨B,off,none⟩ from rfl]
 simp only[Sem.run_bind,Sem.run_pure,Result.andThen_ok]
 exact hl
theorem wpQuiet_loadS{P:Program}{ops:Array Oper}{C:World->Prop}{Q:Act->Prop}{a:Act}{o:Oper}{rest:List Oper}(hgd:o.guard=none)(t:TypeId)(x:Operand)(ho:o.op=.load t x){p v:Value}(hx:a.eval x=p)(hl:∀w,C w->(Instr.loadAt t p).run P w=.ok v w)
  (h:wpQuiet P ops C Q rest (a.put o.dst v)):wpQuiet P ops C Q (o::rest) a:=by
 rw[wpQuiet,if_pos (by simp[Region.wanted,hgd])]
 refine⟨v,fun w hc=>?_,h⟩
 unfold Oper.quietAt execOp
 simp only[ho,hx,hl w hc,Sem.run_bind,Result.andThen_ok,Sem.run_pure]
 exact⟨rfl,rfl⟩
theorem wpQuiet_arr{P:Program}{ops:Array Oper}{C:World->Prop}{Q:Act->Prop}{a:Act}{o:Oper}{rest:List Oper}(hgd:o.guard=none)(t:TypeId)(x:Operand)(ho:o.op=.sliceToArrayPointer t x){p v:Value}(hx:a.eval x=p)(hl:∀w,C w->(Instr.arrayAt t p).run P w=.ok v w)
  (h:wpQuiet P ops C Q rest (a.put o.dst v)):wpQuiet P ops C Q (o::rest) a:=by
 rw[wpQuiet,if_pos (by simp[Region.wanted,hgd])]
 refine⟨v,fun w hc=>?_,h⟩
 unfold Oper.quietAt execOp
 simp only[ho,hx,hl w hc,Sem.run_bind,Result.andThen_ok,Sem.run_pure]
 exact⟨rfl,rfl⟩
theorem authB_hex(t:Bs):authB t=(hexOk t&&decide (t.length=32)):=by
 unfold authB hexOk
 by_cases h:t.length=32
 ·simp[h]
 ·simp[h]
set_option maxHeartbeats 8000000 in
set_option maxRecDepth 100000 in
theorem sc_test_who{n:Nat}{w:World}{b:Nat}{A:Option Addr}{cap k:Nat}{all:List Tok}(h:PkS w b A cap all k)(hn:n<=w.heap.size)(hnb:n<=b){tt:Bs}{tn tc:Nat}(ht:all[k]'h.lt=⟨1,tt,tn,tc⟩)(hm0:tt∉numFs)(hm:tt∉txtFs) :
  Calls Tryz.prog 139 #[.pointer (some ⟨b,0,none⟩)] w (PrPost (condP w.heap.size) n b A cap all (testF (all.drop k)) w):=by
 have HP:=Lib.hid h
 have hlt:=h.lt
 have hfew:=h.ok.few
 obtain⟨T,hT⟩:∃T,ofL tt=T:=⟨_,rfl⟩
 have HN:=Lib.hid (now_at h ht hT)
 have HTL:=Lib.hid (show toL T=tt from by rw[<-hT,toL_ofL])
 have HM:=Lib.hid hm
 have HM0:=Lib.hid hm0
 have HLN:=Lib.hid (fun (wx:World) m (hx:AMap wx m numPs)=>show(Instr.lookup 234 (.map (some m)) (.string T) true).run Tryz.prog wx=.ok (.tuple #[.nilFunc,.bool false]) wx from by
  rw[look_num hx T,HTL.out,if_neg HM0.out,decide_eq_false HM0.out])
 have HLT:=Lib.hid (fun (wx:World) m (hx:AMap wx m txtPs)=>show(Instr.lookup 237 (.map (some m)) (.string T) true).run Tryz.prog wx=.ok (.tuple #[.nilFunc,.bool false]) wx from by
  rw[look_txt hx T,HTL.out,if_neg HM.out,decide_eq_false HM.out])
 have HV:=Lib.hid (show testF (all.drop k)=bindE (oneF whoL (all.drop k)) fun f=>bindE (oneF isL f.2) fun i=>bindE (quoF i.2) fun q =>
   if f.1=wGroup then (if (compF q.1.text).2.2≠0 then .error (q.1.col,3) else .ok (.grp q.1.text,q.2))
   else (if authB q.1.text then .ok (.auth q.1.text,q.2) else .error (q.1.col,3)) from by
  rw[<-whoF_eq,drop_tok hlt,ht];unfold testF;simp only;rw[if_neg (by simp),if_neg HM0.out,if_neg HM.out])
 obtain⟨X,hX⟩:∃X,testF (all.drop k)=X:=⟨_,rfl⟩
 rw[hX]at HV⊢
 have hbw:=h.cells.2.2.2
 clear h ht hm hm0 hX
 go_enter Tryz.func139,Tryz.ntmps139
 go_upto_region 4 with((go_at_call 82;(with_reducible refine HN.out.mono ?_);rintro e w1 ⟨rfl,hb1⟩;have HB1:=Lib.hid hb1;clear hb1))
 have HB0:=Lib.hid (HB1.out.alloc HB1.out.size (.cells #[.int .i64 1,.string T,.int .i64 (tn:Int),.int .i64 (tc:Int)] 118))
 have HX0:=Lib.hid (heap_alloc_new w1 (.cells #[.int .i64 1,.string T,.int .i64 (tn:Int),.int .i64 (tc:Int)] 118))
 have hpx:w.heap.size<=w1.heap.size:=HB1.out.size
 obtain⟨px,hpe⟩:∃px,w1.heap.size=px:=⟨_,rfl⟩
 rw[hpe]at HX0 hpx
 have hz0:px<(w1.alloc (.cells #[.int .i64 1,.string T,.int .i64 (tn:Int),.int .i64 (tc:Int)] 118)).heap.size:=by simp;omega
 simp only[hpe]
 clear hpe HB1 HN
 generalize w1.alloc (.cells #[.int .i64 1,.string T,.int .i64 (tn:Int),.int .i64 (tc:Int)] 118)=W0 at *
 obtain⟨_,x1,_,_⟩:=tokBox_cells HX0.out
 have HK:=Lib.hid (show W0.drew.cell? ⟨px,1,none⟩=some (.string T)/\Below W0.heap.size W0 W0.drew from⟨x1,(Below.refl _ _).drew⟩)
 go_region_held3 (fun w'=>w'.cell? ⟨px,1,none⟩=some (.string T)/\Below W0.heap.size W0 w')
  (first|exact HK.out|exact HS3.out)
  ((go_at_call 153;(with_reducible refine(sc_numberFields _).mono ?_);rintro e W1 ⟨⟨m,rfl,hm3⟩,hb3⟩;have hl3:=HLN.out W1 m hm3;have hb03:=(by assumption:_/\Below W0.heap.size W0 _).2.trans (hb3.mono (by assumption:_/\Below W0.heap.size W0 _).2.size);have HS3:=Lib.hid (show W1.cell? ⟨px,1,none⟩=some (.string T)/\Below W0.heap.size W0 W1 from⟨(hb03.cell (p:=⟨px,1,none⟩) hz0).trans x1,hb03⟩);clear hm3 hb3 hb03))
 rename_i hHeld
 have HX1:=Lib.hid (show W1.heap[px]?=some (.cells #[.int .i64 1,.string T,.int .i64 (tn:Int),.int .i64 (tc:Int)] 118 (0,0)) from(hHeld.2.block px hz0).trans HX0.out)
 have hz1:px<W1.heap.size:=Nat.lt_of_lt_of_le hz0 hHeld.2.size
 have HB1:=Lib.hid (HB0.out.trans (hHeld.2.mono HB0.out.size))
 clear hHeld hl3 HS3 HK x1 HX0 HB0 hz0
 go_upto_region 9 with fail
 obtain⟨_,x1,_,_⟩:=tokBox_cells HX1.out
 have HK:=Lib.hid (show W1.drew.cell? ⟨px,1,none⟩=some (.string T)/\Below W1.heap.size W1 W1.drew from⟨x1,(Below.refl _ _).drew⟩)
 go_region_held3 (fun w'=>w'.cell? ⟨px,1,none⟩=some (.string T)/\Below W1.heap.size W1 w')
  (first|exact HK.out|exact HS3.out)
  ((go_at_call 154;(with_reducible refine(sc_textFields _).mono ?_);rintro e W2 ⟨⟨m,rfl,hm3⟩,hb3⟩;have hl3:=HLT.out W2 m hm3;have hb03:=(by assumption:_/\Below W1.heap.size W1 _).2.trans (hb3.mono (by assumption:_/\Below W1.heap.size W1 _).2.size);have HS3:=Lib.hid (show W2.cell? ⟨px,1,none⟩=some (.string T)/\Below W1.heap.size W1 W2 from⟨(hb03.cell (p:=⟨px,1,none⟩) hz1).trans x1,hb03⟩);clear hm3 hb3 hb03))
 rename_i hHeld
 have HX2:=Lib.hid (show W2.heap[px]?=some (.cells #[.int .i64 1,.string T,.int .i64 (tn:Int),.int .i64 (tc:Int)] 118 (0,0)) from(hHeld.2.block px hz1).trans HX1.out)
 have hz2:px<W2.heap.size:=Nat.lt_of_lt_of_le hz1 hHeld.2.size
 have HB2:=Lib.hid (HB1.out.trans (hHeld.2.mono HB1.out.size))
 clear hHeld hl3 HS3 HK x1 HX1 HB1 hz1
 have HP3:=Lib.hid (HP.out.below HB2.out)
 go_upto_region 14 with fail
 have HB5:=Lib.hid (alloc_bel W2 (.cells #[.string ⟨#[97,117,116,104,111,114]⟩,.string ⟨#[103,114,111,117,112]⟩] 9))
 have HR5:=Lib.hid (show Row (W2.alloc (.cells #[.string ⟨#[97,117,116,104,111,114]⟩,.string ⟨#[103,114,111,117,112]⟩] 9)) (some ⟨W2.heap.size,0,none⟩) (strsL whoL) from row_block (heap_alloc_new W2 _))
 have HO:=Lib.hid (sc_oneOf (HP3.out.below HB5.out) (n:=n) (by have:=HB5.out.size;have:=HB2.out.size;omega) hnb _ whoL 2 rfl 2 HR5.out (by decide) (by decide))
 have hz5:=HB5.out.size
 have HF5:=Lib.hid (Fr.of (S:=fun k=>k=b) (HB2.out.trans (HB5.out.mono HB2.out.size)) hn)
 rcases hO:oneF whoL (all.drop k) with f|⟨fw,ts⟩
 ·rw[hO]at HO HV
  have HO2:=Lib.hid (HO.out.mono (R':=fun e w'=>e=failE f/\Fr n (fun i=>i=b) (W2.alloc (.cells #[.string ⟨#[97,117,116,104,111,114]⟩,.string ⟨#[103,114,111,117,112]⟩] 9)) w') (fun e w' h=>⟨h.res,h.fr⟩))
  clear hO
  go_wp2_with ((go_at_call 78;(with_reducible refine HO2.out.mono ?_);rintro e w6 ⟨rfl,hf6⟩;have HF6:=Lib.hid hf6;clear hf6))
  exact⟨rfl,PrPost.err HV.out (HF5.out.trans HF6.out (fun i hi=>.inl hi)) rfl⟩
 ·rw[hO]at HO HV
  have HO2:=Lib.hid (HO.out.mono (R':=fun e w'=>∃k2,e=.returned (.string (ofL fw))/\PkS w' b A cap all k2/\ts=all.drop k2/\Fr n (fun i=>i=b) (W2.alloc (.cells #[.string ⟨#[97,117,116,104,111,114]⟩,.string ⟨#[103,114,111,117,112]⟩] 9)) w') (fun e w' h=>by
   obtain⟨v,k',rfl,hv,hp,he⟩:=h.res
   exact⟨k',by rw[hv],hp,he,h.fr⟩))
  have HOP:=Lib.hid (show fw∈whoL from oneF_mem hO)
  clear hO
  go_upto_region 15 with((go_at_call 78;(with_reducible refine HO2.out.mono ?_);rintro e w6 ⟨k2,rfl,hp6,rfl,hf6⟩;have HP6:=Lib.hid hp6;have HF6:=Lib.hid (HF5.out.trans hf6 (fun i hi=>.inl hi));clear hf6 hp6))
  clear HO HO2 HR5 HF5 HB5 hz5 HX2 hz2 HB2 HP3 hpx
  obtain⟨FS,hFS⟩:∃FS,ofL fw=FS:=⟨_,rfl⟩
  have HFS:=Lib.hid hFS
  rw[hFS]
  clear hFS
  have HB7:=Lib.hid (alloc_bel w6 (.cells #[.string ⟨#[105,115]⟩] 9))
  have HR7:=Lib.hid (show Row (w6.alloc (.cells #[.string ⟨#[105,115]⟩] 9)) (some ⟨w6.heap.size,0,none⟩) (strsL isL) from row_block (heap_alloc_new w6 _))
  have HI:=Lib.hid (sc_oneOf (HP6.out.below HB7.out) (n:=n) (by have:=HB7.out.size;have:=HF6.out.size;omega) hnb _ isL 1 rfl 1 HR7.out (by decide) (by decide))
  have HF7:=Lib.hid (HF6.out.below HB7.out hn)
  rcases hI:oneF isL (all.drop k2) with f|⟨iw,ts⟩
  ·rw[hI]at HI
   have HV2:=Lib.hid (show X=.error f from by rw[HV.out];unfold bindE;simp only[hI])
   have HI2:=Lib.hid (HI.out.mono (R':=fun e w'=>e=failE f/\Fr n (fun i=>i=b) (w6.alloc (.cells #[.string ⟨#[105,115]⟩] 9)) w') (fun e w' h=>⟨h.res,h.fr⟩))
   clear hI
   go_wp2_with ((go_at_call 78;(with_reducible refine HI2.out.mono ?_);rintro e w8 ⟨rfl,hf8⟩;have HF8:=Lib.hid hf8;clear hf8))
   exact⟨rfl,PrPost.err HV2.out (HF7.out.trans HF8.out (fun i hi=>.inl hi)) rfl⟩
  ·rw[hI]at HI
   have HI2:=Lib.hid (HI.out.mono (R':=fun e w'=>∃k3,e=.returned (.string (ofL iw))/\PkS w' b A cap all k3/\ts=all.drop k3/\Fr n (fun i=>i=b) (w6.alloc (.cells #[.string ⟨#[105,115]⟩] 9)) w') (fun e w' h=>by
    obtain⟨v,k',rfl,hv,hp,he⟩:=h.res
    exact⟨k',by rw[hv],hp,he,h.fr⟩))
   go_upto_region 16 with((go_at_call 78;(with_reducible refine HI2.out.mono ?_);rintro e w8 ⟨k3,rfl,hp8,rfl,hf8⟩;have HP8:=Lib.hid hp8;have HF8:=Lib.hid (HF7.out.trans hf8 (fun i hi=>.inl hi));clear hf8 hp8))
   clear HI HI2 HR7 HF7 HB7 HP6 HF6
   have HNU:=Lib.hid (sc_quoted HP8.out (n:=n) (by have:=HF8.out.size;omega) hnb)
   rcases hN:quoF (all.drop k3) with f|⟨q,ts⟩
   ·rw[hN]at HNU
    have HV2:=Lib.hid (show X=.error f from by rw[HV.out];unfold bindE;simp only[hI,hN])
    have HN2:=Lib.hid (HNU.out.mono (R':=fun e w'=>e=failE f/\Fr n (fun i=>i=b) w8 w') (fun e w' h=>⟨h.res,h.fr⟩))
    clear hN hI
    go_wp2_with ((go_at_call 155;(with_reducible refine HN2.out.mono ?_);rintro e w9 ⟨rfl,hf9⟩;have HF9:=Lib.hid hf9;clear hf9))
    exact⟨rfl,PrPost.err HV2.out (HF8.out.trans HF9.out (fun i hi=>.inl hi)) rfl⟩
   ·rw[hN]at HNU
    have HQL:=Lib.hid (quoF_len HP8.out.ok HP8.out.lt hN)
    obtain⟨qk,qt,qn,qc⟩:=q
    have HV2:=Lib.hid (show X=if fw=wGroup then (if (compF qt).2.2≠0 then .error (qc,3) else .ok (.grp qt,ts)) else (if authB qt then .ok (.auth qt,ts) else .error (qc,3)) from by rw[HV.out];unfold bindE;simp only[hI,hN])
    obtain⟨Q,hQ⟩:∃Q,ofL qt=Q:=⟨_,rfl⟩
    have HQ:=Lib.hid hQ
    have HTQ:=Lib.hid (show toL Q=qt from by rw[<-hQ,toL_ofL])
    have HN2:=Lib.hid (HNU.out.mono (R':=fun e w'=>∃k4,e=.returned (.agg #[.int .i64 (qk:Int),.string Q,.int .i64 (qn:Int),.int .i64 (qc:Int)])/\PkS w' b A cap all k4/\ts=all.drop k4/\Fr n (fun i=>i=b) w8 w') (fun e w' h=>by
     obtain⟨v',k',rfl,hv,hp,he⟩:=h.res
     exact⟨k',by rw[<-hQ];exact congrArg Ending.returned hv,hp,he,h.fr⟩))
    have hQz:Q.size<=1000000:=by rw[<-toL_length,HTQ.out];exact HQL.out
    clear hN hI hQ HNU HQL HV
    go_upto_region 17 with((go_at_call 155;(with_reducible refine HN2.out.mono ?_);rintro e w9 ⟨k4,rfl,hp9,rfl,hf9⟩;have HP9:=Lib.hid hp9;have HF9:=Lib.hid (HF8.out.trans hf9 (fun i hi=>.inl hi));clear hf9 hp9))
    clear HN2 HP8 HF8
    have HFW:=Lib.hid (show(FS.toList == [103,114,111,117,112])=decide (fw=wGroup) from by
     rw[ByteArray.toList_eq, ← HFS.out]
     have:=HOP.out
     simp only[whoL,List.mem_cons,List.not_mem_nil,or_false]at this
     rcases this with rfl|rfl<;>decide)
    have HB10:=Lib.hid (alloc_bel w9 (.cells #[.int .i64 (qk:Int),.string Q,.int .i64 (qn:Int),.int .i64 (qc:Int)] 118))
    have HX10:=Lib.hid (heap_alloc_new w9 (.cells #[.int .i64 (qk:Int),.string Q,.int .i64 (qn:Int),.int .i64 (qc:Int)] 118))
    obtain⟨py,hpy⟩:∃py,w9.heap.size=py:=⟨_,rfl⟩
    have hpw:b<py:=by rw[<-hpy];exact HP9.out.cells.2.2.2
    have hny:w.heap.size<=py:=by rw[<-hpy];exact HF9.out.size
    rw[hpy]at HX10
    have hz10:py<(w9.alloc (.cells #[.int .i64 (qk:Int),.string Q,.int .i64 (qn:Int),.int .i64 (qc:Int)] 118)).heap.size:=by simp;omega
    simp only[hpy]
    have HP10:=Lib.hid (HP9.out.below HB10.out)
    have HF10:=Lib.hid (HF9.out.below HB10.out hn)
    clear hpy HB10 HP9 HF9
    generalize w9.alloc (.cells #[.int .i64 (qk:Int),.string Q,.int .i64 (qn:Int),.int .i64 (qc:Int)] 118)=W10 at *
    obtain⟨_,x1,_,x3⟩:=tokBox_cells HX10.out
    have hw10:=HF10.out.size
    have hnw:n<=W10.heap.size:=by omega
    by_cases hg:fw=wGroup
    ·have HV3:=Lib.hid (HV2.out.trans (if_pos hg))
     have HG:=Lib.hid (show(FS.toList == [103,114,111,117,112])=true from by rw[HFW.out];exact decide_eq_true hg)
     have hg2:=HG.out
     clear hg HFW HV2
     have HCO:=Lib.hid (show Calls Tryz.prog 156 #[.string Q] W10 fun e w'=>∃v,e=.returned (.tuple #[v,.int .i64 ((compF qt).2.1:Nat),.int .i64 (compF qt).2.2])/\PatV w' Q (compF qt) v/\Below W10.heap.size W10 w' from by
      have:=wm_compile Q W10 hQz
      unfold CompPost at this
      rw[HTQ.out]at this;exact this)
     obtain⟨E,hE⟩:∃E,(compF qt).2.2=E:=⟨_,rfl⟩
     have HE:=Lib.hid hE
     obtain⟨PN,hPN⟩:∃PN,(compF qt).2.1=PN:=⟨_,rfl⟩
     rw[hE,hPN]at HCO
     rw[hE]at HV3
     clear hE hPN
     by_cases he:E=0
     ·have HV4:=Lib.hid (HV3.out.trans (if_neg (by simp[he])))
      subst he
      have HC2:=Lib.hid (HCO.out.mono (R':=fun e w'=>∃pb,e=.returned (.tuple #[.pointer (some ⟨pb,0,none⟩),.int .i64 (PN:Int),.int .i64 0])/\PatT w' pb Q (compF qt).1/\Below W10.heap.size W10 w') (fun e w' h=>by
       obtain⟨v,h1,h2,h3⟩:=h
       rcases h2 with⟨_,pb,rfl,hpt⟩|⟨h0,_⟩
       ·exact⟨pb,h1,hpt,h3⟩
       ·exact absurd HE.out h0))
      clear HCO
      go_wp2_with ((go_at_call 156;(with_reducible refine HC2.out.mono ?_);rintro e w11 ⟨pb,rfl,hpv,hb11⟩;have HPV:=Lib.hid hpv;have HB11:=Lib.hid hb11;clear hpv hb11))
      go_ret
      refine PrPost.yes HV4.out (HF10.out.below HB11.out hn) ?_ (HP10.out.below HB11.out)
      have hc:condP w.heap.size (.grp qt) (.iface 170 (.agg #[.pointer (some ⟨pb,0,none⟩)])) w11:=CondIn.grp HE.out (by rw[HQ.out];exact HPV.out)
      exact hc
     ·have HV4:=Lib.hid (HV3.out.trans (if_pos he))
      have he2:(E != 0)=true:=by simpa using he
      clear he
      go_wp2_with ((go_at_call 156;(with_reducible refine HCO.out.mono ?_);rintro e w11 ⟨v,rfl,hpv,hb11⟩;have HB11:=Lib.hid hb11;have y3:=(hb11.cell (p:=⟨py,3,none⟩) hz10).trans x3;clear hpv hb11))
      exact⟨rfl,PrPost.err HV4.out (HF10.out.below HB11.out hn) rfl⟩
    ·have HV3:=Lib.hid (HV2.out.trans (if_neg hg))
     have HG:=Lib.hid (show(FS.toList == [103,114,111,117,112])=false from by rw[HFW.out];exact decide_eq_false hg)
     have hg2:=HG.out
     clear hg HFW HV2
     have HUH:=Lib.hid (asc_unhex Q W10 hQz)
     rw[HTQ.out]at HUH
     have HQS:=Lib.hid (show Q.size=qt.length from by rw[<-toL_length,HTQ.out])
     cases hx:hexOk qt with
     | false =>
      have HV4:=Lib.hid (HV3.out.trans (if_neg (by rw[authB_hex,hx];simp)))
      rw[hx]at HUH
      have HU2:=Lib.hid (HUH.out.mono (R':=fun e w'=>e=.returned (.tuple #[.slice none 0 0,.int .i64 3])/\Below W10.heap.size W10 w') (fun e w' h=>⟨by simpa using h.2,h.1⟩))
      clear hx HUH
      go_wp2_with ((go_at_call 157;(with_reducible refine HU2.out.mono ?_);rintro e w11 ⟨rfl,hb11⟩;have HB11:=Lib.hid hb11;have y3:=(hb11.cell (p:=⟨py,3,none⟩) hz10).trans x3;clear hb11))
      exact⟨rfl,PrPost.err HV4.out (HF10.out.below HB11.out hn) rfl⟩
     | true =>
      rw[hx]at HUH
      have HU2:=Lib.hid (HUH.out.mono (R':=fun e w'=>∃A c,e=.returned (.tuple #[.slice A (Q.size / 2) c,.int .i64 0])/\Row w' A (bytesV (unhexL qt))/\Below W10.heap.size W10 w') (fun e w' h=>by
       have h2:=h.2
       simp only[if_true]at h2
       obtain⟨A,c,h3,h4⟩:=h2
       exact⟨A,c,h3,h4,h.1⟩))
      have HEV:=Lib.hid (show Q.size%2=0 from by
       rw[HQS.out];simp only[hexOk,Bool.and_eq_true,decide_eq_true_eq]at hx;exact hx.1)
      by_cases h32:Q.size=32
      ·have HV4:=Lib.hid (HV3.out.trans (if_pos (by rw[authB_hex,hx, ← HQS.out,h32];rfl)))
       have HAB:=Lib.hid (show authB qt=true from by rw[authB_hex,hx, ← HQS.out,h32];rfl)
       have HUL:=Lib.hid (show(unhexL qt).length=16 from by rw[unhexL_len, ← HQS.out,h32])
       rw[h32]at HU2
       clear hx HUH h32
       go_upto_region 25 with((go_at_call 157;(with_reducible refine HU2.out.mono ?_);rintro e w11 ⟨AU,cU,rfl,hr11,hb11⟩;have HB11:=Lib.hid hb11;have HR11:=Lib.hid hr11;have y1:=(hb11.cell (p:=⟨py,1,none⟩) hz10).trans x1;clear hr11 hb11))
       obtain⟨a0,a1,a2,a3,a4,a5,a6,a7,a8,a9,aA,aB,aC,aD,aE,aF,hU⟩:=list16 _ HUL.out
       have HU:=Lib.hid hU
       rw[hU]at HR11
       clear hU
       obtain⟨bb,off,rfl,hbb,hcc⟩:=HR11.out.at (k:=0) (by simp)
       have HLD:=Lib.hid (show ∀wx,(∃k,wx=w11.drewN k)->(Instr.loadAt 23 (.pointer (some ⟨bb,off,none⟩))).run Tryz.prog wx=.ok (.agg #[u8 a0,u8 a1,u8 a2,u8 a3,u8 a4,u8 a5,u8 a6,u8 a7,u8 a8,u8 a9,u8 aA,u8 aB,u8 aC,u8 aD,u8 aE,u8 aF]) wx from fun wx ⟨k,e⟩=>by
        subst e;exact range_loadS (W:=w11.drewN k) (cs:=bytesV [a0,a1,a2,a3,a4,a5,a6,a7,a8,a9,aA,aB,aC,aD,aE,aF]) hcc Tryz.underlying23 rfl size_Au)
       have HAA:=Lib.hid (show ∀wx,(∃k,wx=w11.drewN k)->(Instr.arrayAt 23 (.slice (some ⟨bb,off,none⟩) 16 cU)).run Tryz.prog wx=.ok (.pointer (some ⟨bb,off,none⟩)) wx from fun wx _=>run_arrayAt (P:=Tryz.prog) (w:=wx) 23 _ 16 _ 16 cU Tryz.underlying23 (Nat.le_refl _))
       clear hcc HR11 HU2
       have HBN:=Lib.hid (fun k=>below_drewN (HB11.out) k)
       refine wp_region_quiet_lit (by kernel_rfl) (by kernel_rfl) ?_
       repeat (first|(refine wpQuiet_arr rfl 23 _ rfl rfl HAA.out ?_;simp only[Act.put,List.setIfInBounds_toArray,List.set_cons_zero,List.set_cons_succ])|(refine wpQuiet_loadS rfl 23 _ rfl rfl HLD.out ?_;simp only[Act.put,List.setIfInBounds_toArray,List.set_cons_zero,List.set_cons_succ])|(go_big_quiet_step (fail)))
       refine wpQuiet_nil ?_
       intro _ hw'
       obtain⟨nq,hw''⟩:=hw'
       subst hw''
       go_wp2_with fail
       go_ret
       have HB12:=Lib.hid (HBN.out nq)
       refine PrPost.yes HV4.out (HF10.out.below HB12.out hn) ?_ (HP10.out.below HB12.out)
       have hc:condP w.heap.size (.auth qt) (.iface 167 (.agg (.string (ofL qt)::byV (unhexL qt)).toArray)) (w11.drewN nq):=CondIn.auth HAB.out
       rw[HU.out,HQ.out]at hc
       exact hc
      ·have h16:((Q.size / 2:Nat):Int)≠16:=by have:=HEV.out;omega
       have HV4:=Lib.hid (HV3.out.trans (if_neg (by rw[authB_hex, ← HQS.out];simp[h32])))
       obtain⟨qz,hqz⟩:∃qz,Q.size / 2=qz:=⟨_,rfl⟩
       rw[hqz]at HU2 h16
       have h16':((qz:Int) != 16)=true:=by simpa using h16
       clear hx HUH h32 hqz h16
       go_wp2_with ((go_at_call 157;(with_reducible refine HU2.out.mono ?_);rintro e w11 ⟨AU,cU,rfl,hr11,hb11⟩;have HB11:=Lib.hid hb11;have y3:=(hb11.cell (p:=⟨py,3,none⟩) hz10).trans x3;clear hr11 hb11))
       exact⟨rfl,PrPost.err HV4.out (HF10.out.below HB11.out hn) rfl⟩
def Sh{α:Type}(p:Pr α):Prop := ∀ts a,p ts=.ok a->a.2.length<=ts.length
theorem bindE_ok{α β:Type}{x:Except Fl α}{k:α->Except Fl β}{b:β}(h:bindE x k=.ok b):∃a,x=.ok a/\k a=.ok b:=by
 cases x with
 | error f=>cases h
 | ok a=>exact⟨a,rfl,h⟩
theorem sh_one(l:List Bs):Sh (oneF l):=by
 intro ts a h
 cases ts with
 | nil=>cases h
 | cons t r =>
  unfold oneF at h
  simp only at h
  split at h
  ·injection h with h;rw[<-h];simp
  ·cases h
theorem sh_num(m:Nat):Sh (numF m):=by
 intro ts a h
 cases ts with
 | nil=>cases h
 | cons t r =>
  unfold numF at h
  simp only at h
  split at h
  ·cases h
  ·split at h
   ·cases h
   ·injection h with h;rw[<-h];simp
theorem sh_quo:Sh quoF:=by
 intro ts a h
 cases ts with
 | nil=>cases h
 | cons t r =>
  unfold quoF at h
  simp only at h
  split at h
  ·cases h
  ·injection h with h;rw[<-h];simp
theorem sh_who:Sh whoF:=by
 intro ts a h
 rw[whoF_eq]at h
 obtain⟨x,h1,h⟩:=bindE_ok h
 obtain⟨y,h2,h⟩:=bindE_ok h
 obtain⟨z,h3,h⟩:=bindE_ok h
 have e1:=sh_one _ _ _ h1
 have e2:=sh_one _ _ _ h2
 have e3:=sh_quo _ _ h3
 split at h
 ·split at h
  ·cases h
  ·injection h with h;rw[<-h];simp only;omega
 ·split at h
  ·injection h with h;rw[<-h];simp only;omega
  ·cases h
theorem sh_test:Sh testF:=by
 intro ts a h
 cases ts with
 | nil=>cases h
 | cons t r =>
  unfold testF at h
  simp only at h
  split at h
  ·cases h
  ·split at h
   ·obtain⟨x,h1,h⟩:=bindE_ok h
    obtain⟨y,h2,h⟩:=bindE_ok h
    have e1:=sh_one _ _ _ h1
    have e2:=sh_num _ _ _ h2
    injection h with h;rw[<-h];simp only[List.length_cons];omega
   ·split at h
    ·obtain⟨x,h1,h⟩:=bindE_ok h
     obtain⟨y,h2,h⟩:=bindE_ok h
     have e1:=sh_one _ _ _ h1
     have e2:=sh_quo _ _ h2
     injection h with h;rw[<-h];simp only[List.length_cons];omega
    ·exact sh_who _ _ h
theorem sh_more(word:Bs){p:Pr Cond}(hp:Sh p):∀g,Sh (moreF word p g)
 | 0,ts,a,h=>by unfold moreF at h;injection h with h;rw[<-h];exact Nat.le_refl _
 | g+1,ts,a,h=>by
  unfold moreF at h
  split at h
  ·obtain⟨x,h1,h⟩:=bindE_ok h
   obtain⟨y,h2,h⟩:=bindE_ok h
   have e1:=hp _ _ h1
   have e2:=sh_more word hp g _ _ h2
   injection h with h;rw[<-h];simp only
   have:=List.length_tail (l:=ts);omega
  ·injection h with h;rw[<-h];exact Nat.le_refl _
theorem sh_list(word:Bs)(mk:List Cond->Cond){p:Pr Cond}(hp:Sh p):Sh (listC word mk p):=by
 intro ts a h
 unfold listC at h
 obtain⟨x,h1,h⟩:=bindE_ok h
 obtain⟨y,h2,h⟩:=bindE_ok h
 have e1:=hp _ _ h1
 have e2:=sh_more word hp _ _ _ h2
 injection h with h;rw[<-h];simp only;omega
theorem sh_single:∀n,Sh (singleF n)
 | 0,ts,a,h=>by
  unfold singleF at h
  split at h
  ·exact sh_test _ _ h
  ·cases h
 | n+1,ts,a,h=>by
  unfold singleF at h
  have ht:=List.length_tail (l:=ts)
  split at h
  ·exact sh_test _ _ h
  ·dsimp only at h
   split at h
   ·obtain⟨x,h1,h⟩:=bindE_ok h
    have e1:=sh_single n _ _ h1
    injection h with h;rw[<-h];simp only;omega
   ·obtain⟨x,h1,h⟩:=bindE_ok h
    obtain⟨y,h2,h⟩:=bindE_ok h
    have e1:=sh_list _ _ (sh_list _ _ (sh_single n)) _ _ h1
    have e2:=sh_one _ _ _ h2
    injection h with h;rw[<-h];simp only;omega
attribute [local go_sem ↓] fld_tok0 fld_tok1 fld_tok3
set_option maxHeartbeats 8000000 in
set_option maxRecDepth 100000 in
theorem sc_test_no{n:Nat}{w:World}{b:Nat}{A:Option Addr}{cap k:Nat}{all:List Tok}(h:PkS w b A cap all k)(hn:n<=w.heap.size)(hnb:n<=b){tk tn tc:Nat}{tt:Bs}(ht:all[k]'h.lt=⟨tk,tt,tn,tc⟩)(hk1:tk≠1) :
  Calls Tryz.prog 139 #[.pointer (some ⟨b,0,none⟩)] w (PrPost (condP w.heap.size) n b A cap all (testF (all.drop k)) w):=by
 have hlt:=h.lt
 obtain⟨T,hT⟩:∃T,ofL tt=T:=⟨_,rfl⟩
 have HN:=Lib.hid (now_at h ht hT)
 have HV:=Lib.hid (show testF (all.drop k)=.error (colT (all.drop k),29) from by
  rw[drop_tok hlt,ht];unfold testF;simp only;rw[if_pos hk1];rfl)
 have HW:=Lib.hid (fun wx (hb:Below w.heap.size w wx)=>sc_wrong (h.below hb))
 generalize testF (all.drop k)=X at *
 generalize colT (all.drop k)=cl at *
 have hk2:((tk:Int) != 1)=true:=by
  rw[bne_iff_ne];omega
 clear h ht
 go_enter Tryz.func139,Tryz.ntmps139
 go_wp2_with (first
  | (go_at_call 82;(with_reducible refine HN.out.mono ?_);rintro e w1 ⟨rfl,hb1⟩;have HB1:=Lib.hid hb1;clear hb1)
  | (go_at_call 83;(with_reducible refine(HW.out _ (HB1.out.alloc HB1.out.size _)).mono ?_);rintro e w2 ⟨rfl,hb2⟩;have HB2:=Lib.hid hb2;clear hb2))
 have HB3:=(HB1.out.alloc HB1.out.size (.cells #[.int .i64 (tk:Int),.string T,.int .i64 (tn:Int),.int .i64 (tc:Int)] 118))
 exact⟨rfl,PrPost.err HV.out (Fr.of (HB3.trans (HB2.out.mono HB3.size)) hn) rfl⟩
theorem sc_test{n:Nat}{w:World}{b:Nat}{A:Option Addr}{cap k:Nat}{all:List Tok}(h:PkS w b A cap all k)(hn:n<=w.heap.size)(hnb:n<=b) :
  Calls Tryz.prog 139 #[.pointer (some ⟨b,0,none⟩)] w (PrPost (condP w.heap.size) n b A cap all (testF (all.drop k)) w):=by
 obtain⟨t,ht⟩:∃t,all[k]'h.lt=t:=⟨_,rfl⟩
 obtain⟨tk,tt,tn,tc⟩:=t
 by_cases h1:tk=1
 ·subst h1
  by_cases h2:tt∈numFs
  ·exact sc_test_num h hn hnb ht h2
  ·by_cases h3:tt∈txtFs
   ·exact sc_test_txt h hn hnb ht h2 h3
   ·exact sc_test_who h hn hnb ht h2 h3
 ·exact sc_test_no h hn hnb ht h1
theorem CondIn.shape{A:Nat->Prop}{w:World}{c:Cond}{v:Value}(h:CondIn A w c v):∃T x,v=.iface T x:=by cases h<;>exact⟨_,_,rfl⟩
theorem condT_ne:(79:Nat)≠196/\(79:Nat)≠284/\(116:Nat)≠196/\(116:Nat)≠284:=by decide
structure LstAt(z:Nat)(v:Value)(cs:List Cond)(vs:List Value)(w:World):Prop where
 own:w.ownsRow z 79 1 v cs.length vs
 el:∀(i:Nat) (h1:i<cs.length) (h2:i<vs.length),CondIn (fun k=>z<=k/\k<w.heap.size/\v.ownBlock≠some k) w cs[i] vs[i]
section
variable {z : Nat} {v : Value} {cs : List Cond} {vs : List Value} {w w' : World}
theorem LstAt.len(h:LstAt z v cs vs w):vs.length=cs.length:=by have:=h.own.1;omega
theorem LstAt.fr{n b:Nat}{cells:Array Value}{fr:Nat × Nat}(h:LstAt z v cs vs w)(hf:Fr n (fun k=>k=b) w w')(hb:w.heap[b]?=some (.cells cells 116 fr))(hbz:b<z):LstAt z v cs vs w':=by
 refine⟨own_oth h.own fun k e=>hf.oth k (h.own.lt k e).2 (by have:=(h.own.lt k e).1;omega),fun i h1 h2=>?_⟩
 refine((h.el i h1 h2).keep (KeepA.fr hf hb condT_ne.2.2.1 condT_ne.2.2.2 (fun k hk=>⟨hk.2.1,by omega⟩))).mono fun k hk=>⟨hk.1,Nat.lt_of_lt_of_le hk.2.1 hf.size,hk.2.2⟩
theorem LstAt.push{v':Value}{c:Cond}{x:Value}{z1:Nat}(h:LstAt z v cs vs w)(hz1:z<=z1)(hx:condP z1 c x w)(hgl:∀g,v.ownBlock=some g->g<z1)(ho:w'.ownsRow z 79 1 v' (cs.length+1) (vs ++ [x]))(hg:w.grownBy w' v.ownBlock)
  (hat:v'.ownBlock=v.ownBlock\/∀g,v'.ownBlock=some g->w.heap.size<=g):LstAt z v' (cs ++ [c]) (vs ++ [x]) w':=by
 have hrow:∀g,v.ownBlock=some g->∃cur t fr,w.heap[g]?=some (.cells cur t fr)/\t≠196/\t≠284:=fun g e=>by
  obtain⟨cur,hc⟩:=own_type h.own g e
  exact⟨cur,_,_,hc,condT_ne.1,condT_ne.2.1⟩
 have hn:∀k,k<w.heap.size->v.ownBlock≠some k->v'.ownBlock≠some k:=fun k hk hv e=>by
  rcases hat with h1|h1
  ·exact hv (h1 ▸ e)
  ·have:=h1 k e;omega
 refine⟨by rw[List.length_append];exact ho,fun i h1 h2=>?_⟩
 by_cases hi:i<cs.length
 ·have hi2:i<vs.length:=by rw[h.len];exact hi
  rw[List.getElem_append_left hi,List.getElem_append_left hi2]
  refine((h.el i hi hi2).keep (KeepA.grown hg (fun k hk=>⟨hk.2.1,hk.2.2⟩) hrow)).mono fun k hk=>⟨hk.1,Nat.lt_of_lt_of_le hk.2.1 hg.size,hn k hk.2.1 hk.2.2⟩
 ·have h1':i=cs.length:=by simp at h1;omega
  subst h1'
  have e1:(cs ++ [c])[cs.length]=c:=by simp
  have e2:(vs ++ [x])[cs.length]'h2=x:=by
   have hl:=h.len
   rw[List.getElem_append_right (by omega)];simp[hl]
  rw[e1,e2]
  refine((show CondIn _ w c x from hx).keep (KeepA.grown hg (fun k hk=>⟨hk.2,fun e=>by have:=hgl k e;omega⟩) hrow)).mono fun k hk=>⟨by omega,Nat.lt_of_lt_of_le hk.2 hg.size,hn k hk.2 (fun e=>by have:=hgl k e;omega)⟩
theorem LstAt.first{c:Cond}{x:Value}(hx:condP z c x w)(hz:z<=w.heap.size):LstAt z (.slice (some ⟨w.heap.size,0,none⟩) 1 1) [c] [x] (w.alloc (.cells #[x] 79)):=by
 refine⟨⟨rfl,.inr ⟨w.heap.size,1,#[x],rfl,hz,heap_alloc_new w _,Nat.le_refl _,by unfold maxLen;omega,rfl,rfl⟩⟩,fun i h1 h2=>?_⟩
 obtain rfl:i=0:=by simpa using h1
 have hb:=alloc_bel w (.cells #[x] 79)
 refine((show CondIn _ w c x from hx).keep (KeepA.below hb (fun k hk=>hk.2))).mono fun k hk=>⟨hk.1,Nat.lt_of_lt_of_le hk.2 hb.size,fun e=>?_⟩
 simp only[Value.ownBlock,Option.some.injEq]at e
 omega
theorem LstAt.one{c:Cond}(h:LstAt z v [c] vs w):∃x b,vs=[x]/\v.ownBlock=some b/\w.cell? ⟨b,0,none⟩=some x/\condP z c x w:=by
 have hl:=h.len
 match vs,hl with
 | [x],_ =>
  have he:=h.el 0 (by simp) (by simp)
  rcases own_form h.own with⟨_,h0⟩|⟨g,cap,rfl,hg1,hg2,_,hc⟩
  ·simp at h0
  ·exact⟨x,g,rfl,rfl,hc 0 x rfl,he.mono fun k hk=>⟨hk.1,hk.2.1⟩⟩
end
theorem LstAt.slice{z:Nat}{v:Value}{c:Cond}{cs:List Cond}{vs:List Value}{w:World}(h:LstAt z v (c::cs) vs w):∃g cap,v=.slice (some ⟨g,0,none⟩) (cs.length+1) cap/\z<=g/\g<w.heap.size:=by
 rcases own_form h.own with⟨_,h0⟩|⟨g,cap,rfl,hg1,hg2,_,hc⟩
 ·simp at h0
 ·exact⟨g,cap,rfl,hg1,hg2⟩
def pkAt(w:World)(b:Nat):Nat:=match w.cell? ⟨b,1,none⟩ with
 | some (.int _ k)=>k.toNat
 | _=>0
theorem pkAt_of{w:World}{b:Nat}{A:Option Addr}{cap k:Nat}{all:List Tok}(h:PkS w b A cap all k):pkAt w b=k:=by
 unfold pkAt;rw[h.cells.2.1];simp
theorem fr_grownS{n:Nat}{w w':World}{row:Option Nat}(hn:n<=w.heap.size)(hg:w.grownBy w' row)(hr:∀k,row=some k->n<=k):Fr n (fun k=>row=some k) w w' :=
 ⟨(Below.refl n w).grown hg hn hr,fun k hk hs=>hg.block k hk (fun e=>hs e.symm)⟩
theorem LstAt.cond_both{z g cp:Nat}{l:List Cond}{vs:List Value}{w:World}(h:LstAt z (.slice (some ⟨g,0,none⟩) l.length cp) l vs w)(hz:z<=g)(hg:g<w.heap.size)(hm:0<l.length/\l.length<=1000000):condP z (.both l) (.iface 157 (.slice (some ⟨g,0,none⟩) l.length cp)) w:=by
 obtain⟨A2,c2,e2,hr⟩:=own_row h.own
 injection e2 with h1 h2 h3
 subst h1
 exact CondIn.both h.len hm.1 hm.2 ⟨hz,hg⟩ hr fun i h1 h2=>(h.el i h1 h2).mono fun k hk=>⟨hk.1,hk.2.1⟩
theorem LstAt.cond_either{z g cp:Nat}{l:List Cond}{vs:List Value}{w:World}(h:LstAt z (.slice (some ⟨g,0,none⟩) l.length cp) l vs w)(hz:z<=g)(hg:g<w.heap.size)(hm:0<l.length/\l.length<=1000000):condP z (.either l) (.iface 155 (.slice (some ⟨g,0,none⟩) l.length cp)) w:=by
 obtain⟨A2,c2,e2,hr⟩:=own_row h.own
 injection e2 with h1 h2 h3
 subst h1
 exact CondIn.either h.len hm.1 hm.2 ⟨hz,hg⟩ hr fun i h1 h2=>(h.el i h1 h2).mono fun k hk=>⟨hk.1,hk.2.1⟩
theorem moreF_yes{word:Bs}{p:Pr Cond}{g k:Nat}{all:List Tok}(h:isT word (all.drop k)=true):moreF word p (g+1) (all.drop k)=bindE (p (all.drop (k+1))) fun c=>bindE (moreF word p g c.2) fun l=>.ok (c.1::l.1,l.2):=by
 show(if isT word (all.drop k) then _ else _)=_
 rw[if_pos h,List.tail_drop]
theorem moreF_no{word:Bs}{p:Pr Cond}{g k:Nat}{all:List Tok}(h:isT word (all.drop k)=false):moreF word p g (all.drop k)=.ok ([],all.drop k):=by
 cases g with
 | zero=>rfl
 | succ g =>
  show(if isT word (all.drop k) then _ else _)=_
  rw[h];rfl
set_option maxHeartbeats 8000000 in
set_option maxRecDepth 100000 in
theorem sc_both{n:Nat}{w:World}{b:Nat}{A:Option Addr}{cap k:Nat}{all:List Tok}(h:PkS w b A cap all k)(hn:n<=w.heap.size)(hnb:n<=b)(d:Int){p:Pr Cond}(hsh:Sh p)
  (hin:∀(wx:World) (kx:Nat),PkS wx b A cap all kx->n<=wx.heap.size->Calls Tryz.prog 127 #[.pointer (some ⟨b,0,none⟩),.int .i64 d] wx (PrPost (condP wx.heap.size) n b A cap all (p (all.drop kx)) wx)) :
  Calls Tryz.prog 110 #[.pointer (some ⟨b,0,none⟩),.int .i64 d] w (PrPost (condP w.heap.size) n b A cap all (listC wAnd .both p (all.drop k)) w):=by
 have HIN:=Lib.hid hin;clear hin
 have HSH:=Lib.hid hsh;clear hsh
 have hbw:=h.cells.2.2.2
 have hfew:=h.ok.few
 have hlk:=h.lt
 have H1:=Lib.hid (HIN.out w k h hn)
 obtain⟨X,hX⟩:∃X,listC wAnd .both p (all.drop k)=X:=⟨_,rfl⟩
 have HV:=Lib.hid (show X=bindE (p (all.drop k)) fun c=>bindE (moreF wAnd p c.2.length c.2) fun l=>.ok (joinC .both c.1 l.1,l.2) from hX.symm)
 rw[hX]
 clear hX h
 rcases hP:p (all.drop k) with f|⟨c0,ts⟩
 ·rw[hP]at H1 HV
  have H2:=Lib.hid (H1.out.mono (R':=fun e w'=>e=failE f/\Fr n (fun i=>i=b) w w') (fun e w' h=>⟨h.res,h.fr⟩))
  clear hP
  go_enter Tryz.func110,Tryz.ntmps110
  go_wp2_with ((go_at_call 127;(with_reducible refine H2.out.mono ?_);rintro e w1 ⟨rfl,hf1⟩;have HF1:=Lib.hid hf1;clear hf1))
  exact⟨rfl,PrPost.err HV.out HF1.out rfl⟩
 ·rw[hP]at H1 HV
  have H2:=Lib.hid (H1.out.mono (R':=fun e w'=>∃T x k2,e=.returned (.iface T x)/\condP w.heap.size c0 (.iface T x) w'/\PkS w' b A cap all k2/\ts=all.drop k2/\Fr n (fun i=>i=b) w w') (fun e w' h=>by
   obtain⟨v',k',rfl,hv,hp,he⟩:=h.res
   obtain⟨T,x,rfl⟩:=CondIn.shape hv
   exact⟨T,x,k',rfl,hv,hp,he,h.fr⟩))
  clear hP
  go_enter Tryz.func110,Tryz.ntmps110
  go_wp2_with ((go_at_call 127;(with_reducible refine H2.out.mono ?_);rintro e w1 ⟨T1,x1,k2,rfl,hc1,hp1,rfl,hf1⟩;have HC1:=Lib.hid hc1;have HP1:=Lib.hid hp1;have HF1:=Lib.hid hf1;clear hc1 hp1 hf1))
  have HB2:=Lib.hid (alloc_bel w1 (.cells #[.iface T1 x1] 79))
  have HL2:=Lib.hid (LstAt.first HC1.out HF1.out.size)
  have HP2:=Lib.hid (HP1.out.below HB2.out)
  have HF2:=Lib.hid (HF1.out.below HB2.out hn)
  generalize w1.alloc (.cells #[.iface T1 x1] 79)=W2 at *
  generalize w1.heap.size=g1 at *
  clear HB2 HP1 HF1 HC1 H1 H2
  have HV2:=Lib.hid (show X=bindE (moreF wAnd p (all.length-k2) (all.drop k2)) fun l=>.ok (joinC .both c0 l.1,l.2) from by rw[HV.out,bindE];simp only[List.length_drop])
  clear HV
  go_loopw [5] (fun v wr=>∃(cs:List Cond) (vs:List Value) (kr g:Nat),LstAt w.heap.size v (c0::cs) vs wr/\PkS wr b A cap all kr/\Fr n (fun i=>i=b) w wr/\cs.length<=kr/\all.length-kr<=g/\X=bindE (moreF wAnd p g (all.drop kr)) fun l=>.ok (joinC .both c0 (cs++l.1),l.2))
   (fun _ wr=>all.length-pkAt wr b)
  case atStart=>exact⟨[],_,k2,_,HL2.out,HP2.out,HF2.out,by simp,Nat.le_refl _,HV2.out⟩
  case round =>
   obtain⟨cs,vs,kr,g,hL,hp,hf,hck,hg,hX⟩:=hrel
   have hlr:=hp.lt
   have HPA:=Lib.hid (pkAt_of hp)
   have HX:=Lib.hid hX
   have HL:=Lib.hid hL
   obtain⟨gb,cp,rfl,hgb⟩:=hL.slice
   have HPB:=Lib.hid hp.box
   have hzr:=hf.size
   have HS:=Lib.hid (sc_skip hp (n:=n) (by omega) hnb ⟨#[97,110,100]⟩)
   have HF:=Lib.hid hf
   have HTW:=Lib.hid (show toL ⟨#[97,110,100]⟩=wAnd from rfl)
   rw[HTW.out]at HS
   clear hX hL hp hf
   cases hq:isT wAnd (all.drop kr) with
   | false =>
    rw[hq]at HS
    have HS2:=Lib.hid (HS.out.mono (R':=fun e w'=>e=.returned (.bool false)/\Fr n (fun i=>i=b) wr w'/\PkS w' b A cap all kr) (fun e w' h=>⟨h.ret,h.fr,h.pk⟩))
    have HX2:=Lib.hid (show X=.ok (joinC .both c0 cs,all.drop kr) from by rw[HX.out,moreF_no hq];unfold bindE;simp)
    clear hq HS HX
    cases cs with
    | nil =>
     go_wp2_with ((go_at_call 80;(with_reducible refine HS2.out.mono ?_);rintro e w4 ⟨rfl,hf4,hp4⟩;have HP4:=Lib.hid hp4;have HF4:=Lib.hid (HF.out.trans hf4 (fun i hi=>.inl hi));obtain⟨x4,b4,rfl,hb4,c4,hc4⟩:=(HL.out.fr hf4 HPB.out hbw).one;obtain rfl:gb=b4:=(by simpa[Value.ownBlock] using hb4);have HC4:=Lib.hid hc4;clear hb4 hc4 hf4 hp4))
     go_ret
     exact PrPost.yes HX2.out HF4.out HC4.out HP4.out
    | cons c1 cs =>
     have hn1:(((cs.length+1+1:Nat):Int)==1)=false:=beq_eq_false_iff_ne.2 (by omega)
     go_wp2_with ((go_at_call 80;(with_reducible refine HS2.out.mono ?_);rintro e w4 ⟨rfl,hf4,hp4⟩;have HP4:=Lib.hid hp4;have HF4:=Lib.hid (HF.out.trans hf4 (fun i hi=>.inl hi));have HL4:=Lib.hid (HL.out.fr hf4 HPB.out hbw);have hz4:=hf4.size;clear hf4 hp4))
     go_ret
     have hc:condP w.heap.size (.both (c0::c1::cs)) (.iface 157 (.slice (some ⟨gb,0,none⟩) (c0::c1::cs).length cp)) w4:=HL4.out.cond_both hgb.1 (by have:=HF4.out.size;omega) (by simp only[List.length_cons]at hck⊢;omega)
     exact PrPost.yes HX2.out HF4.out hc HP4.out
   | true =>
    rw[hq]at HS
    have HS2:=Lib.hid (HS.out.mono (R':=fun e w'=>e=.returned (.bool true)/\Fr n (fun i=>i=b) wr w'/\PkS w' b A cap all (kr+1)) (fun e w' h=>⟨h.ret,h.fr,h.pk⟩))
    obtain⟨g2,rfl⟩:∃g2,g=g2+1:=⟨g-1,by omega⟩
    have HX2:=Lib.hid (HX.out.trans (by rw[moreF_yes hq]))
    clear hq HS HX
    rcases hP:p (all.drop (kr+1)) with f|⟨c2,ts⟩
    ·have HX3:=Lib.hid (show X=.error f from by rw[HX2.out,hP];rfl)
     have HI:=Lib.hid (show ∀wx,PkS wx b A cap all (kr+1)->n<=wx.heap.size->Calls Tryz.prog 127 #[.pointer (some ⟨b,0,none⟩),.int .i64 d] wx (fun e w'=>e=failE f/\Fr n (fun i=>i=b) wx w') from fun wx h1 h2=>(HIN.out wx _ h1 h2).mono fun e w' h=>by
      rw[hP]at h;exact⟨h.res,h.fr⟩)
     clear hP
     go_wp2_with (first
      | (go_at_call 80;(with_reducible refine HS2.out.mono ?_);rintro e w4 ⟨rfl,hf4,hp4⟩;have HP4:=Lib.hid hp4;have HF4:=Lib.hid (HF.out.trans hf4 (fun i hi=>.inl hi));have hz4:=hf4.size;clear hf4 hp4)
      | (go_at_call 127;(with_reducible refine(HI.out _ HP4.out (by omega)).mono ?_);rintro e w5 ⟨rfl,hf5⟩;have HF5:=Lib.hid (HF4.out.trans hf5 (fun i hi=>.inl hi));clear hf5))
     exact⟨rfl,PrPost.err HX3.out HF5.out rfl⟩
    ·have HX3:=Lib.hid (show X=bindE (moreF wAnd p g2 ts) fun l=>.ok (joinC .both c0 ((cs ++ [c2])++l.1),l.2) from by
      rw[HX2.out,hP,bindE]
      simp only
      cases moreF wAnd p g2 ts with
      | error f=>rfl
      | ok a=>simp[bindE])
     have HMO:=Lib.hid (HSH.out _ _ hP)
     have HI:=Lib.hid (show ∀wx,PkS wx b A cap all (kr+1)->n<=wx.heap.size->Calls Tryz.prog 127 #[.pointer (some ⟨b,0,none⟩),.int .i64 d] wx (fun e w'=>∃T x k3,e=.returned (.iface T x)/\condP wx.heap.size c2 (.iface T x) w'/\PkS w' b A cap all k3/\ts=all.drop k3/\Fr n (fun i=>i=b) wx w') from fun wx h1 h2=>(HIN.out wx _ h1 h2).mono fun e w' h=>by
      rw[hP]at h
      obtain⟨v',k',rfl,hv,hp,he⟩:=h.res
      obtain⟨T,x,rfl⟩:=CondIn.shape hv
      exact⟨T,x,k',rfl,hv,hp,he,h.fr⟩)
     clear hP HX2
     have hml:cs.length+1<=1000000:=by omega
     go_wp2_with (first
      | (go_at_call 80;(with_reducible refine HS2.out.mono ?_);rintro e w4 ⟨rfl,hf4,hp4⟩;have HP4:=Lib.hid hp4;have HF4:=Lib.hid (HF.out.trans hf4 (fun i hi=>.inl hi));have hz4:=hf4.size;have HL4:=Lib.hid (HL.out.fr hf4 HPB.out hbw);clear hf4 hp4)
      | (go_at_call 127;(with_reducible refine(HI.out _ HP4.out (by omega)).mono ?_);rintro e w5 ⟨T5,x5,k5,rfl,hc5,hp5,rfl,hf5⟩;have HC5:=Lib.hid hc5;have HP5:=Lib.hid hp5;have HF5:=Lib.hid (HF4.out.trans hf5 (fun i hi=>.inl hi));have HL5:=Lib.hid (HL4.out.fr hf5 HP4.out.box hbw);have hz5:=hf5.size;have hown:=(show w5.ownsRow w.heap.size 79 1 (.slice (some ⟨gb,0,none⟩) (cs.length+1) cp) (cs.length+1) vs from HL5.out.own);have hbase:w.heap.size<=w5.heap.size:=(by omega);clear hf5 hc5 hp5)
      | (at_builtin;go_loud (refine wpList_push el_both rfl _ _ rfl hown #[.iface T5 x5] rfl rfl rfl (by simp[Value.oneCell']) (by omega) (by unfold maxLen;omega) hbase ?_);intro gg cap6 w6 hown6 hg6 hat6))
     have HL6:=Lib.hid (HL5.out.push (z1:=w4.heap.size) (by omega) HC5.out (fun g e=>by simp only[Value.ownBlock,Option.some.injEq]at e;omega) hown6 hg6 (by
      rcases hat6 with e|e
      ·exact .inl (by rw[e];rfl)
      ·exact .inr fun g e2=>by simp only[Value.ownBlock,Option.some.injEq]at e2;omega))
     have HP6:=Lib.hid (HP5.out.keep (fun j hj=>hg6.block j (Nat.lt_of_le_of_lt hj HP5.out.cells.2.2.2) (fun e=>by simp only[Value.ownBlock,Option.some.injEq]at e;omega)) hg6.size)
     have HF6:=Lib.hid (HF5.out.trans (fr_grownS (n:=n) (by omega) hg6 (fun k e=>by simp only[Value.ownBlock,Option.some.injEq]at e;omega)) (fun i hi=>.inr (by simp only[Value.ownBlock,Option.some.injEq]at hi;omega)))
     have hk5:=HP5.out.lt
     have HK5:=Lib.hid (show kr+1<=k5 from by have:=HMO.out;simp only[List.length_drop]at this;omega)
     clear hown6 hg6 hat6 hown
     go_wp2_with fail
     go_roundw
     case rel=>exact⟨cs ++ [c2],_,k5,g2,HL6.out,HP6.out,HF6.out,by have:=HK5.out;simp only[List.length_append,List.length_cons,List.length_nil];omega,by have:=HK5.out;omega,HX3.out⟩
     case measure=>rw[pkAt_of HP6.out,HPA.out];have:=HK5.out;omega
set_option maxHeartbeats 8000000 in
set_option maxRecDepth 100000 in
theorem sc_condition{n:Nat}{w:World}{b:Nat}{A:Option Addr}{cap k:Nat}{all:List Tok}(h:PkS w b A cap all k)(hn:n<=w.heap.size)(hnb:n<=b)(d:Int){p:Pr Cond}(hsh:Sh p)
  (hin:∀(wx:World) (kx:Nat),PkS wx b A cap all kx->n<=wx.heap.size->Calls Tryz.prog 110 #[.pointer (some ⟨b,0,none⟩),.int .i64 d] wx (PrPost (condP wx.heap.size) n b A cap all (p (all.drop kx)) wx)) :
  Calls Tryz.prog 81 #[.pointer (some ⟨b,0,none⟩),.int .i64 d] w (PrPost (condP w.heap.size) n b A cap all (listC wOr .either p (all.drop k)) w):=by
 have HIN:=Lib.hid hin;clear hin
 have HSH:=Lib.hid hsh;clear hsh
 have hbw:=h.cells.2.2.2
 have hfew:=h.ok.few
 have hlk:=h.lt
 have H1:=Lib.hid (HIN.out w k h hn)
 obtain⟨X,hX⟩:∃X,listC wOr .either p (all.drop k)=X:=⟨_,rfl⟩
 have HV:=Lib.hid (show X=bindE (p (all.drop k)) fun c=>bindE (moreF wOr p c.2.length c.2) fun l=>.ok (joinC .either c.1 l.1,l.2) from hX.symm)
 rw[hX]
 clear hX h
 rcases hP:p (all.drop k) with f|⟨c0,ts⟩
 ·rw[hP]at H1 HV
  have H2:=Lib.hid (H1.out.mono (R':=fun e w'=>e=failE f/\Fr n (fun i=>i=b) w w') (fun e w' h=>⟨h.res,h.fr⟩))
  clear hP
  go_enter Tryz.func81,Tryz.ntmps81
  go_wp2_with ((go_at_call 110;(with_reducible refine H2.out.mono ?_);rintro e w1 ⟨rfl,hf1⟩;have HF1:=Lib.hid hf1;clear hf1))
  exact⟨rfl,PrPost.err HV.out HF1.out rfl⟩
 ·rw[hP]at H1 HV
  have H2:=Lib.hid (H1.out.mono (R':=fun e w'=>∃T x k2,e=.returned (.iface T x)/\condP w.heap.size c0 (.iface T x) w'/\PkS w' b A cap all k2/\ts=all.drop k2/\Fr n (fun i=>i=b) w w') (fun e w' h=>by
   obtain⟨v',k',rfl,hv,hp,he⟩:=h.res
   obtain⟨T,x,rfl⟩:=CondIn.shape hv
   exact⟨T,x,k',rfl,hv,hp,he,h.fr⟩))
  clear hP
  go_enter Tryz.func81,Tryz.ntmps81
  go_wp2_with ((go_at_call 110;(with_reducible refine H2.out.mono ?_);rintro e w1 ⟨T1,x1,k2,rfl,hc1,hp1,rfl,hf1⟩;have HC1:=Lib.hid hc1;have HP1:=Lib.hid hp1;have HF1:=Lib.hid hf1;clear hc1 hp1 hf1))
  have HB2:=Lib.hid (alloc_bel w1 (.cells #[.iface T1 x1] 79))
  have HL2:=Lib.hid (LstAt.first HC1.out HF1.out.size)
  have HP2:=Lib.hid (HP1.out.below HB2.out)
  have HF2:=Lib.hid (HF1.out.below HB2.out hn)
  generalize w1.alloc (.cells #[.iface T1 x1] 79)=W2 at *
  generalize w1.heap.size=g1 at *
  clear HB2 HP1 HF1 HC1 H1 H2
  have HV2:=Lib.hid (show X=bindE (moreF wOr p (all.length-k2) (all.drop k2)) fun l=>.ok (joinC .either c0 l.1,l.2) from by rw[HV.out,bindE];simp only[List.length_drop])
  clear HV
  go_loopw [5] (fun v wr=>∃(cs:List Cond) (vs:List Value) (kr g:Nat),LstAt w.heap.size v (c0::cs) vs wr/\PkS wr b A cap all kr/\Fr n (fun i=>i=b) w wr/\cs.length<=kr/\all.length-kr<=g/\X=bindE (moreF wOr p g (all.drop kr)) fun l=>.ok (joinC .either c0 (cs++l.1),l.2))
   (fun _ wr=>all.length-pkAt wr b)
  case atStart=>exact⟨[],_,k2,_,HL2.out,HP2.out,HF2.out,by simp,Nat.le_refl _,HV2.out⟩
  case round =>
   obtain⟨cs,vs,kr,g,hL,hp,hf,hck,hg,hX⟩:=hrel
   have hlr:=hp.lt
   have HPA:=Lib.hid (pkAt_of hp)
   have HX:=Lib.hid hX
   have HL:=Lib.hid hL
   obtain⟨gb,cp,rfl,hgb⟩:=hL.slice
   have HPB:=Lib.hid hp.box
   have hzr:=hf.size
   have HS:=Lib.hid (sc_skip hp (n:=n) (by omega) hnb ⟨#[111,114]⟩)
   have HF:=Lib.hid hf
   have HTW:=Lib.hid (show toL ⟨#[111,114]⟩=wOr from rfl)
   rw[HTW.out]at HS
   clear hX hL hp hf
   cases hq:isT wOr (all.drop kr) with
   | false =>
    rw[hq]at HS
    have HS2:=Lib.hid (HS.out.mono (R':=fun e w'=>e=.returned (.bool false)/\Fr n (fun i=>i=b) wr w'/\PkS w' b A cap all kr) (fun e w' h=>⟨h.ret,h.fr,h.pk⟩))
    have HX2:=Lib.hid (show X=.ok (joinC .either c0 cs,all.drop kr) from by rw[HX.out,moreF_no hq];unfold bindE;simp)
    clear hq HS HX
    cases cs with
    | nil =>
     go_wp2_with ((go_at_call 80;(with_reducible refine HS2.out.mono ?_);rintro e w4 ⟨rfl,hf4,hp4⟩;have HP4:=Lib.hid hp4;have HF4:=Lib.hid (HF.out.trans hf4 (fun i hi=>.inl hi));obtain⟨x4,b4,rfl,hb4,c4,hc4⟩:=(HL.out.fr hf4 HPB.out hbw).one;obtain rfl:gb=b4:=(by simpa[Value.ownBlock] using hb4);have HC4:=Lib.hid hc4;clear hb4 hc4 hf4 hp4))
     go_ret
     exact PrPost.yes HX2.out HF4.out HC4.out HP4.out
    | cons c1 cs =>
     have hn1:(((cs.length+1+1:Nat):Int)==1)=false:=beq_eq_false_iff_ne.2 (by omega)
     go_wp2_with ((go_at_call 80;(with_reducible refine HS2.out.mono ?_);rintro e w4 ⟨rfl,hf4,hp4⟩;have HP4:=Lib.hid hp4;have HF4:=Lib.hid (HF.out.trans hf4 (fun i hi=>.inl hi));have HL4:=Lib.hid (HL.out.fr hf4 HPB.out hbw);have hz4:=hf4.size;clear hf4 hp4))
     go_ret
     have hc:condP w.heap.size (.either (c0::c1::cs)) (.iface 155 (.slice (some ⟨gb,0,none⟩) (c0::c1::cs).length cp)) w4:=HL4.out.cond_either hgb.1 (by have:=HF4.out.size;omega) (by simp only[List.length_cons]at hck⊢;omega)
     exact PrPost.yes HX2.out HF4.out hc HP4.out
   | true =>
    rw[hq]at HS
    have HS2:=Lib.hid (HS.out.mono (R':=fun e w'=>e=.returned (.bool true)/\Fr n (fun i=>i=b) wr w'/\PkS w' b A cap all (kr+1)) (fun e w' h=>⟨h.ret,h.fr,h.pk⟩))
    obtain⟨g2,rfl⟩:∃g2,g=g2+1:=⟨g-1,by omega⟩
    have HX2:=Lib.hid (HX.out.trans (by rw[moreF_yes hq]))
    clear hq HS HX
    rcases hP:p (all.drop (kr+1)) with f|⟨c2,ts⟩
    ·have HX3:=Lib.hid (show X=.error f from by rw[HX2.out,hP];rfl)
     have HI:=Lib.hid (show ∀wx,PkS wx b A cap all (kr+1)->n<=wx.heap.size->Calls Tryz.prog 110 #[.pointer (some ⟨b,0,none⟩),.int .i64 d] wx (fun e w'=>e=failE f/\Fr n (fun i=>i=b) wx w') from fun wx h1 h2=>(HIN.out wx _ h1 h2).mono fun e w' h=>by
      rw[hP]at h;exact⟨h.res,h.fr⟩)
     clear hP
     go_wp2_with (first
      | (go_at_call 80;(with_reducible refine HS2.out.mono ?_);rintro e w4 ⟨rfl,hf4,hp4⟩;have HP4:=Lib.hid hp4;have HF4:=Lib.hid (HF.out.trans hf4 (fun i hi=>.inl hi));have hz4:=hf4.size;clear hf4 hp4)
      | (go_at_call 110;(with_reducible refine(HI.out _ HP4.out (by omega)).mono ?_);rintro e w5 ⟨rfl,hf5⟩;have HF5:=Lib.hid (HF4.out.trans hf5 (fun i hi=>.inl hi));clear hf5))
     exact⟨rfl,PrPost.err HX3.out HF5.out rfl⟩
    ·have HX3:=Lib.hid (show X=bindE (moreF wOr p g2 ts) fun l=>.ok (joinC .either c0 ((cs ++ [c2])++l.1),l.2) from by
      rw[HX2.out,hP,bindE]
      simp only
      cases moreF wOr p g2 ts with
      | error f=>rfl
      | ok a=>simp[bindE])
     have HMO:=Lib.hid (HSH.out _ _ hP)
     have HI:=Lib.hid (show ∀wx,PkS wx b A cap all (kr+1)->n<=wx.heap.size->Calls Tryz.prog 110 #[.pointer (some ⟨b,0,none⟩),.int .i64 d] wx (fun e w'=>∃T x k3,e=.returned (.iface T x)/\condP wx.heap.size c2 (.iface T x) w'/\PkS w' b A cap all k3/\ts=all.drop k3/\Fr n (fun i=>i=b) wx w') from fun wx h1 h2=>(HIN.out wx _ h1 h2).mono fun e w' h=>by
      rw[hP]at h
      obtain⟨v',k',rfl,hv,hp,he⟩:=h.res
      obtain⟨T,x,rfl⟩:=CondIn.shape hv
      exact⟨T,x,k',rfl,hv,hp,he,h.fr⟩)
     clear hP HX2
     have hml:cs.length+1<=1000000:=by omega
     go_wp2_with (first
      | (go_at_call 80;(with_reducible refine HS2.out.mono ?_);rintro e w4 ⟨rfl,hf4,hp4⟩;have HP4:=Lib.hid hp4;have HF4:=Lib.hid (HF.out.trans hf4 (fun i hi=>.inl hi));have hz4:=hf4.size;have HL4:=Lib.hid (HL.out.fr hf4 HPB.out hbw);clear hf4 hp4)
      | (go_at_call 110;(with_reducible refine(HI.out _ HP4.out (by omega)).mono ?_);rintro e w5 ⟨T5,x5,k5,rfl,hc5,hp5,rfl,hf5⟩;have HC5:=Lib.hid hc5;have HP5:=Lib.hid hp5;have HF5:=Lib.hid (HF4.out.trans hf5 (fun i hi=>.inl hi));have HL5:=Lib.hid (HL4.out.fr hf5 HP4.out.box hbw);have hz5:=hf5.size;have hown:=(show w5.ownsRow w.heap.size 79 1 (.slice (some ⟨gb,0,none⟩) (cs.length+1) cp) (cs.length+1) vs from HL5.out.own);have hbase:w.heap.size<=w5.heap.size:=(by omega);clear hf5 hc5 hp5)
      | (at_builtin;go_loud (refine wpList_push el_either rfl _ _ rfl hown #[.iface T5 x5] rfl rfl rfl (by simp[Value.oneCell']) (by omega) (by unfold maxLen;omega) hbase ?_);intro gg cap6 w6 hown6 hg6 hat6))
     have HL6:=Lib.hid (HL5.out.push (z1:=w4.heap.size) (by omega) HC5.out (fun g e=>by simp only[Value.ownBlock,Option.some.injEq]at e;omega) hown6 hg6 (by
      rcases hat6 with e|e
      ·exact .inl (by rw[e];rfl)
      ·exact .inr fun g e2=>by simp only[Value.ownBlock,Option.some.injEq]at e2;omega))
     have HP6:=Lib.hid (HP5.out.keep (fun j hj=>hg6.block j (Nat.lt_of_le_of_lt hj HP5.out.cells.2.2.2) (fun e=>by simp only[Value.ownBlock,Option.some.injEq]at e;omega)) hg6.size)
     have HF6:=Lib.hid (HF5.out.trans (fr_grownS (n:=n) (by omega) hg6 (fun k e=>by simp only[Value.ownBlock,Option.some.injEq]at e;omega)) (fun i hi=>.inr (by simp only[Value.ownBlock,Option.some.injEq]at hi;omega)))
     have hk5:=HP5.out.lt
     have HK5:=Lib.hid (show kr+1<=k5 from by have:=HMO.out;simp only[List.length_drop]at this;omega)
     clear hown6 hg6 hat6 hown
     go_wp2_with fail
     go_roundw
     case rel=>exact⟨cs ++ [c2],_,k5,g2,HL6.out,HP6.out,HF6.out,by have:=HK5.out;simp only[List.length_append,List.length_cons,List.length_nil];omega,by have:=HK5.out;omega,HX3.out⟩
     case measure=>rw[pkAt_of HP6.out,HPA.out];have:=HK5.out;omega
theorem singleF_test{n:Nat}{ts:List Tok}(h1:isT wNot ts=false)(h2:isT yLp ts=false):singleF n ts=testF ts:=by
 unfold singleF;rw[h1,h2];rfl
theorem singleF_full{ts:List Tok}(h:isT wNot ts=true\/isT yLp ts=true):singleF 0 ts=.error (colT ts,9):=by
 unfold singleF
 rcases h with h|h<;>rw[h]<;>simp
theorem singleF_not{n:Nat}{ts:List Tok}(h:isT wNot ts=true):singleF (n+1) ts=bindE (singleF n ts.tail) fun c=>.ok (.neg c.1,c.2):=by
 conv=>lhs;unfold singleF
 rw[h];rfl
theorem singleF_par{n:Nat}{ts:List Tok}(h:isT wNot ts=false)(h2:isT yLp ts=true):singleF (n+1) ts=bindE (orF (singleF n) ts.tail) fun c=>bindE (oneF [yRp] c.2) fun y=>.ok (c.1,y.2):=by
 conv=>lhs;unfold singleF
 rw[h,h2];rfl
attribute [local go_sem ↓] fld_tok0 fld_tok1 fld_tok3
def SingleOk(n b:Nat)(A:Option Addr)(cap:Nat)(all:List Tok)(m:Nat):Prop := ∀(wx:World) (kx:Nat),PkS wx b A cap all kx->n<=wx.heap.size->Calls Tryz.prog 127 #[.pointer (some ⟨b,0,none⟩),.int .i64 (32-(m:Int))] wx (PrPost (condP wx.heap.size) n b A cap all (singleF m (all.drop kx)) wx)
theorem cond_of{n b:Nat}{A:Option Addr}{cap:Nat}{all:List Tok}{m:Nat}(hnb:n<=b)(h:SingleOk n b A cap all m):∀(wx:World) (kx:Nat),PkS wx b A cap all kx->n<=wx.heap.size->Calls Tryz.prog 81 #[.pointer (some ⟨b,0,none⟩),.int .i64 (32-(m:Int))] wx (PrPost (condP wx.heap.size) n b A cap all (condF m (all.drop kx)) wx) :=
 fun wx kx hp hn=>sc_condition hp hn hnb _ (sh_list _ _ (sh_single m)) fun wy ky hp hn=>sc_both hp hn hnb _ (sh_single m) h
set_option maxHeartbeats 8000000 in
set_option maxRecDepth 100000 in
theorem sc_single_test{n:Nat}{w:World}{b:Nat}{A:Option Addr}{cap k:Nat}{all:List Tok}(h:PkS w b A cap all k)(hn:n<=w.heap.size)(hnb:n<=b)(d:Int)(m:Nat)(h1:isT wNot (all.drop k)=false)(h2:isT yLp (all.drop k)=false) :
  Calls Tryz.prog 127 #[.pointer (some ⟨b,0,none⟩),.int .i64 d] w (PrPost (condP w.heap.size) n b A cap all (singleF m (all.drop k)) w):=by
 rw[singleF_test h1 h2]
 have HI1:=Lib.hid (show ∀wx,Below w.heap.size w wx->Calls Tryz.prog 109 #[.pointer (some ⟨b,0,none⟩),.string ⟨#[110,111,116]⟩] wx fun e w'=>e=.returned (.bool false)/\Below wx.heap.size wx w' from fun wx hb=>by
  have:=sc_is (h.below hb) ⟨#[110,111,116]⟩;rwa [show toL ⟨#[110,111,116]⟩=wNot from rfl,h1]at this)
 have HI2:=Lib.hid (show ∀wx,Below w.heap.size w wx->Calls Tryz.prog 109 #[.pointer (some ⟨b,0,none⟩),.string ⟨#[40]⟩] wx fun e w'=>e=.returned (.bool false)/\Below wx.heap.size wx w' from fun wx hb=>by
  have:=sc_is (h.below hb) ⟨#[40]⟩;rwa [show toL ⟨#[40]⟩=yLp from rfl,h2]at this)
 have HT:=Lib.hid (show ∀wx,Below w.heap.size w wx->Calls Tryz.prog 139 #[.pointer (some ⟨b,0,none⟩)] wx (PrPost (condP wx.heap.size) n b A cap all (testF (all.drop k)) wx) from fun wx hb=>sc_test (h.below hb) (by have:=hb.size;omega) hnb)
 clear h h1 h2
 generalize testF (all.drop k)=X at *
 have HB0:=Lib.hid (Below.refl w.heap.size w)
 rcases X with f|⟨c,ts⟩
 ·have HT2:=Lib.hid (show ∀wx,Below w.heap.size w wx->Calls Tryz.prog 139 #[.pointer (some ⟨b,0,none⟩)] wx (fun e w'=>e=failE f/\Fr n (fun i=>i=b) wx w') from fun wx hb=>(HT.out wx hb).mono fun e w' h=>⟨h.res,h.fr⟩)
  clear HT
  go_enter Tryz.func127,Tryz.ntmps127
  go_wp2_with (first
   | (go_at_call 109;(with_reducible refine(HI1.out _ HB0.out).mono ?_);rintro e w1 ⟨rfl,hb1⟩;have HB1:=Lib.hid hb1;clear hb1)
   | (go_at_call 109;(with_reducible refine(HI2.out _ HB1.out).mono ?_);rintro e w2 ⟨rfl,hb2⟩;have HB2:=Lib.hid (HB1.out.trans (hb2.mono HB1.out.size));clear hb2)
   | (go_at_call 139;(with_reducible refine(HT2.out _ HB2.out).mono ?_);rintro e w3 ⟨rfl,hf3⟩;have HF3:=Lib.hid ((Fr.of (S:=fun i=>i=b) HB2.out hn).trans hf3 (fun i hi=>.inl hi));clear hf3))
  exact⟨rfl,PrPost.err rfl HF3.out rfl⟩
 ·have HT2:=Lib.hid (show ∀wx,Below w.heap.size w wx->Calls Tryz.prog 139 #[.pointer (some ⟨b,0,none⟩)] wx (fun e w'=>∃T x k3,e=.returned (.iface T x)/\condP wx.heap.size c (.iface T x) w'/\PkS w' b A cap all k3/\ts=all.drop k3/\Fr n (fun i=>i=b) wx w') from fun wx hb=>(HT.out wx hb).mono fun e w' h=>by
   obtain⟨v',k',rfl,hv,hp,he⟩:=h.res
   obtain⟨T,x,rfl⟩:=CondIn.shape hv
   exact⟨T,x,k',rfl,hv,hp,he,h.fr⟩)
  clear HT
  go_enter Tryz.func127,Tryz.ntmps127
  go_wp2_with (first
   | (go_at_call 109;(with_reducible refine(HI1.out _ HB0.out).mono ?_);rintro e w1 ⟨rfl,hb1⟩;have HB1:=Lib.hid hb1;clear hb1)
   | (go_at_call 109;(with_reducible refine(HI2.out _ HB1.out).mono ?_);rintro e w2 ⟨rfl,hb2⟩;have HB2:=Lib.hid (HB1.out.trans (hb2.mono HB1.out.size));clear hb2)
   | (go_at_call 139;(with_reducible refine(HT2.out _ HB2.out).mono ?_);rintro e w3 ⟨T3,x3,k3,rfl,hc3,hp3,rfl,hf3⟩;have HC3:=Lib.hid hc3;have HP3:=Lib.hid hp3;have HF3:=Lib.hid ((Fr.of (S:=fun i=>i=b) HB2.out hn).trans hf3 (fun i hi=>.inl hi));clear hf3 hc3 hp3))
  go_ret
  have hz:=HB2.out.size
  exact PrPost.yes rfl HF3.out ((show CondIn _ _ c _ from HC3.out).mono fun k hk=>⟨by omega,hk.2⟩) HP3.out
theorem is_not{w:World}{b:Nat}{A:Option Addr}{cap k:Nat}{all:List Tok}(h:PkS w b A cap all k){q:Bool}(hq:isT wNot (all.drop k)=q)(wx:World)(hb:Below w.heap.size w wx):Calls Tryz.prog 109 #[.pointer (some ⟨b,0,none⟩),.string ⟨#[110,111,116]⟩] wx fun e w'=>e=.returned (.bool q)/\Below wx.heap.size wx w':=by
 have:=sc_is (h.below hb) ⟨#[110,111,116]⟩;rwa [show toL ⟨#[110,111,116]⟩=wNot from rfl,hq]at this
theorem is_lp{w:World}{b:Nat}{A:Option Addr}{cap k:Nat}{all:List Tok}(h:PkS w b A cap all k){q:Bool}(hq:isT yLp (all.drop k)=q)(wx:World)(hb:Below w.heap.size w wx):Calls Tryz.prog 109 #[.pointer (some ⟨b,0,none⟩),.string ⟨#[40]⟩] wx fun e w'=>e=.returned (.bool q)/\Below wx.heap.size wx w':=by
 have:=sc_is (h.below hb) ⟨#[40]⟩;rwa [show toL ⟨#[40]⟩=yLp from rfl,hq]at this
set_option maxHeartbeats 8000000 in
set_option maxRecDepth 100000 in
theorem sc_single_fullA{n:Nat}{w:World}{b:Nat}{A:Option Addr}{cap k:Nat}{all:List Tok}(h:PkS w b A cap all k)(hn:n<=w.heap.size)(hnb:n<=b)(h1:isT wNot (all.drop k)=true) :
  Calls Tryz.prog 127 #[.pointer (some ⟨b,0,none⟩),.int .i64 32] w (PrPost (condP w.heap.size) n b A cap all (singleF 0 (all.drop k)) w):=by
 rw[singleF_full (.inl h1)]
 have HI1:=Lib.hid (is_not h h1)
 have HN:=Lib.hid (fun wx (hb:Below w.heap.size w wx)=>now_at (h.below hb) (show all[k]'h.lt=⟨(all[k]'h.lt).kind,(all[k]'h.lt).text,(all[k]'h.lt).num,(all[k]'h.lt).col⟩ from rfl) rfl)
 have HC:=Lib.hid (show colT (all.drop k)=(all[k]'h.lt).col from by rw[drop_tok h.lt];rfl)
 generalize colT (all.drop k)=cl at *
 have hlt:=h.lt
 generalize all[k]=t at *
 obtain⟨tk,tt,tn,tc⟩:=t
 obtain rfl:=HC.out
 simp only at HN
 generalize ofL tt=T at *
 clear h h1 
 have HB0:=Lib.hid (Below.refl w.heap.size w)
 go_enter Tryz.func127,Tryz.ntmps127
 go_wp2_with (first
  | (go_at_call 109;(with_reducible refine(HI1.out _ HB0.out).mono ?_);rintro e w1 ⟨rfl,hb1⟩;have HB1:=Lib.hid hb1;clear hb1)
  | (go_at_call 82;(with_reducible refine(HN.out _ HB1.out).mono ?_);rintro e w3 ⟨rfl,hb3⟩;have HB3:=Lib.hid (HB1.out.trans (hb3.mono HB1.out.size));clear hb3))
 exact⟨rfl,PrPost.err rfl (Fr.of HB3.out hn) rfl⟩
set_option maxHeartbeats 8000000 in
set_option maxRecDepth 100000 in
theorem sc_single_fullB{n:Nat}{w:World}{b:Nat}{A:Option Addr}{cap k:Nat}{all:List Tok}(h:PkS w b A cap all k)(hn:n<=w.heap.size)(hnb:n<=b)(h1:isT wNot (all.drop k)=false)(h2:isT yLp (all.drop k)=true) :
  Calls Tryz.prog 127 #[.pointer (some ⟨b,0,none⟩),.int .i64 32] w (PrPost (condP w.heap.size) n b A cap all (singleF 0 (all.drop k)) w):=by
 rw[singleF_full (.inr h2)]
 have HI1:=Lib.hid (is_not h h1)
 have HI2:=Lib.hid (is_lp h h2)
 have HN:=Lib.hid (fun wx (hb:Below w.heap.size w wx)=>now_at (h.below hb) (show all[k]'h.lt=⟨(all[k]'h.lt).kind,(all[k]'h.lt).text,(all[k]'h.lt).num,(all[k]'h.lt).col⟩ from rfl) rfl)
 have HC:=Lib.hid (show colT (all.drop k)=(all[k]'h.lt).col from by rw[drop_tok h.lt];rfl)
 generalize colT (all.drop k)=cl at *
 have hlt:=h.lt
 generalize all[k]=t at *
 obtain⟨tk,tt,tn,tc⟩:=t
 obtain rfl:=HC.out
 simp only at HN
 generalize ofL tt=T at *
 clear h h1 h2
 have HB0:=Lib.hid (Below.refl w.heap.size w)
 go_enter Tryz.func127,Tryz.ntmps127
 go_wp2_with (first
  | (go_at_call 109;(with_reducible refine(HI1.out _ HB0.out).mono ?_);rintro e w1 ⟨rfl,hb1⟩;have HB1:=Lib.hid hb1;clear hb1)
  | (go_at_call 109;(with_reducible refine(HI2.out _ HB1.out).mono ?_);rintro e w2 ⟨rfl,hb2⟩;have HB2:=Lib.hid (HB1.out.trans (hb2.mono HB1.out.size));clear hb2)
  | (go_at_call 82;(with_reducible refine(HN.out _ HB2.out).mono ?_);rintro e w3 ⟨rfl,hb3⟩;have HB3:=Lib.hid (HB2.out.trans (hb3.mono HB2.out.size));clear hb3))
 exact⟨rfl,PrPost.err rfl (Fr.of HB3.out hn) rfl⟩
set_option maxHeartbeats 8000000 in
set_option maxRecDepth 100000 in
theorem sc_single_not{n:Nat}{w:World}{b:Nat}{A:Option Addr}{cap k:Nat}{all:List Tok}(h:PkS w b A cap all k)(hn:n<=w.heap.size)(hnb:n<=b)(d:Int)(m:Nat)(hd0:0<=d)(hd:d<32)(h1:isT wNot (all.drop k)=true)
  (hin:∀(wx:World) (kx:Nat),PkS wx b A cap all kx->n<=wx.heap.size->Calls Tryz.prog 127 #[.pointer (some ⟨b,0,none⟩),.int .i64 (d+1)] wx (PrPost (condP wx.heap.size) n b A cap all (singleF m (all.drop kx)) wx)) :
  Calls Tryz.prog 127 #[.pointer (some ⟨b,0,none⟩),.int .i64 d] w (PrPost (condP w.heap.size) n b A cap all (singleF (m+1) (all.drop k)) w):=by
 rw[singleF_not h1,List.tail_drop]
 have HI1:=Lib.hid (is_not h h1)
 have HSK:=Lib.hid (show ∀wx,Below w.heap.size w wx->Calls Tryz.prog 80 #[.pointer (some ⟨b,0,none⟩),.string ⟨#[110,111,116]⟩] wx (fun e w'=>e=.returned (.bool true)/\Fr n (fun i=>i=b) wx w'/\PkS w' b A cap all (k+1)) from fun wx hb=>by
  have:=sc_skip (n:=n) (h.below hb) (by have:=hb.size;omega) hnb ⟨#[110,111,116]⟩
  rw[show toL ⟨#[110,111,116]⟩=wNot from rfl,h1]at this
  exact this.mono fun e w' h=>⟨h.ret,h.fr,h.pk⟩)
 have HIN:=Lib.hid (show ∀wx,PkS wx b A cap all (k+1)->n<=wx.heap.size->_ from fun wx=>hin wx (k+1))
 clear hin h h1
 have HB0:=Lib.hid (Below.refl w.heap.size w)
 rcases hX:singleF m (all.drop (k+1)) with f|⟨c,ts⟩
 ·rw[hX]at HIN
  have HT2:=Lib.hid (show ∀wx,PkS wx b A cap all (k+1)->n<=wx.heap.size->Calls Tryz.prog 127 #[.pointer (some ⟨b,0,none⟩),.int .i64 (d+1)] wx (fun e w'=>e=failE f/\Fr n (fun i=>i=b) wx w') from fun wx a1 a2=>(HIN.out wx a1 a2).mono fun e w' h=>⟨h.res,h.fr⟩)
  clear HIN hX
  go_enter Tryz.func127,Tryz.ntmps127
  go_wp2_with (first
   | (go_at_call 109;(with_reducible refine(HI1.out _ HB0.out).mono ?_);rintro e w1 ⟨rfl,hb1⟩;have HB1:=Lib.hid hb1;clear hb1)
   | (go_at_call 80;(with_reducible refine(HSK.out _ HB1.out).mono ?_);rintro e w2 ⟨rfl,hf2,hp2⟩;have HF2:=Lib.hid ((Fr.of (S:=fun i=>i=b) HB1.out hn).trans hf2 (fun i hi=>.inl hi));have hz2:=HF2.out.size;have HP2:=Lib.hid hp2;clear hf2 hp2)
   | (go_at_call 127;(with_reducible refine(HT2.out _ HP2.out (by omega)).mono ?_);rintro e w3 ⟨rfl,hf3⟩;have HF3:=Lib.hid (HF2.out.trans hf3 (fun i hi=>.inl hi));clear hf3))
  exact⟨rfl,PrPost.err rfl HF3.out rfl⟩
 ·rw[hX]at HIN
  have HT2:=Lib.hid (show ∀wx,PkS wx b A cap all (k+1)->n<=wx.heap.size->Calls Tryz.prog 127 #[.pointer (some ⟨b,0,none⟩),.int .i64 (d+1)] wx (fun e w'=>∃T x k3,e=.returned (.iface T x)/\condP wx.heap.size c (.iface T x) w'/\PkS w' b A cap all k3/\ts=all.drop k3/\Fr n (fun i=>i=b) wx w') from fun wx a1 a2=>(HIN.out wx a1 a2).mono fun e w' h=>by
   obtain⟨v',k',rfl,hv,hp,he⟩:=h.res
   obtain⟨T,x,rfl⟩:=CondIn.shape hv
   exact⟨T,x,k',rfl,hv,hp,he,h.fr⟩)
  clear HIN hX
  go_enter Tryz.func127,Tryz.ntmps127
  go_wp2_with (first
   | (go_at_call 109;(with_reducible refine(HI1.out _ HB0.out).mono ?_);rintro e w1 ⟨rfl,hb1⟩;have HB1:=Lib.hid hb1;clear hb1)
   | (go_at_call 80;(with_reducible refine(HSK.out _ HB1.out).mono ?_);rintro e w2 ⟨rfl,hf2,hp2⟩;have HF2:=Lib.hid ((Fr.of (S:=fun i=>i=b) HB1.out hn).trans hf2 (fun i hi=>.inl hi));have hz2:=HF2.out.size;have HP2:=Lib.hid hp2;clear hf2 hp2)
   | (go_at_call 127;(with_reducible refine(HT2.out _ HP2.out (by omega)).mono ?_);rintro e w3 ⟨T3,x3,k3,rfl,hc3,hp3,rfl,hf3⟩;have HC3:=Lib.hid hc3;have HP3:=Lib.hid hp3;have HF3:=Lib.hid (HF2.out.trans hf3 (fun i hi=>.inl hi));clear hf3 hc3 hp3))
  go_ret
  exact PrPost.yes rfl HF3.out (show condP w.heap.size (.neg c) (.iface 159 (.agg #[.iface T3 x3])) w3 from CondIn.neg ((show CondIn _ _ c _ from HC3.out).mono fun k hk=>⟨by omega,hk.2⟩)) HP3.out
theorem condP.fr{z:Nat}{c:Cond}{v:Value}{w w':World}(h:condP z c v w){n b:Nat}{cells:Array Value}{fr:Nat × Nat}(hf:Fr n (fun k=>k=b) w w')(hb:w.heap[b]?=some (.cells cells 116 fr))(hbz:b<z):condP z c v w' :=
 ((show CondIn _ w c v from h).keep (KeepA.fr hf hb condT_ne.2.2.1 condT_ne.2.2.2 (fun k hk=>⟨hk.2,by omega⟩))).mono fun k hk=>⟨hk.1,Nat.lt_of_lt_of_le hk.2 hf.size⟩
theorem condP.below{z:Nat}{c:Cond}{v:Value}{w w':World}(h:condP z c v w)(hb:Below w.heap.size w w'):condP z c v w' :=
 ((show CondIn _ w c v from h).keep (KeepA.below hb (fun k hk=>hk.2))).mono fun k hk=>⟨hk.1,Nat.lt_of_lt_of_le hk.2 hb.size⟩
def rpL:List Bs := [yRp]
set_option maxHeartbeats 8000000 in
set_option maxRecDepth 100000 in
theorem sc_single_par{n:Nat}{w:World}{b:Nat}{A:Option Addr}{cap k:Nat}{all:List Tok}(h:PkS w b A cap all k)(hn:n<=w.heap.size)(hnb:n<=b)(d:Int)(m:Nat)(hd0:0<=d)(hd:d<32)(h1:isT wNot (all.drop k)=false)(h2:isT yLp (all.drop k)=true)
  (hin:∀(wx:World) (kx:Nat),PkS wx b A cap all kx->n<=wx.heap.size->Calls Tryz.prog 81 #[.pointer (some ⟨b,0,none⟩),.int .i64 (d+1)] wx (PrPost (condP wx.heap.size) n b A cap all (condF m (all.drop kx)) wx)) :
  Calls Tryz.prog 127 #[.pointer (some ⟨b,0,none⟩),.int .i64 d] w (PrPost (condP w.heap.size) n b A cap all (singleF (m+1) (all.drop k)) w):=by
 rw[singleF_par h1 h2,List.tail_drop]
 have HI1:=Lib.hid (is_not h h1)
 have HI2:=Lib.hid (is_lp h h2)
 have HSK:=Lib.hid (show ∀wx,Below w.heap.size w wx->Calls Tryz.prog 80 #[.pointer (some ⟨b,0,none⟩),.string ⟨#[110,111,116]⟩] wx (fun e w'=>e=.returned (.bool false)/\Fr n (fun i=>i=b) wx w'/\PkS w' b A cap all k) from fun wx hb=>by
  have:=sc_skip (n:=n) (h.below hb) (by have:=hb.size;omega) hnb ⟨#[110,111,116]⟩
  rw[show toL ⟨#[110,111,116]⟩=wNot from rfl,h1]at this
  exact this.mono fun e w' h=>⟨h.ret,h.fr,h.pk⟩)
 have HIN:=Lib.hid (show ∀wx,PkS wx b A cap all (k+1)->n<=wx.heap.size->_ from fun wx=>hin wx (k+1))
 have hk1:k+1<all.length:=h.ok.next h.lt (by rcases isT_kind (x:=yLp) h2 h.lt with e|e<;>omega)
 have hfew:=h.ok.few
 have hbw:=h.cells.2.2.2
 have y1:IntKind.i64.wrap ((k:Int)+1)=((k:Int)+1):=IntWalk.i64_in _ (by omega)
 obtain⟨X,hX⟩:∃X,(bindE (orF (singleF m) (all.drop (k+1))) fun c=>bindE (oneF [yRp] c.2) fun y=>(.ok (c.1,y.2):Except Fl (Cond × List Tok)))=X:=⟨_,rfl⟩
 have HV:=Lib.hid (show X=bindE (condF m (all.drop (k+1))) fun c=>bindE (oneF rpL c.2) fun y=>.ok (c.1,y.2) from hX.symm)
 rw[hX]
 clear hin h h1 h2 hX
 have HB0:=Lib.hid (Below.refl w.heap.size w)
 go_enter Tryz.func127,Tryz.ntmps127
 go_upto_region 7 with(first
  | (go_at_call 109;(with_reducible refine(HI1.out _ HB0.out).mono ?_);rintro e w1 ⟨rfl,hb1⟩;have HB1:=Lib.hid hb1;clear hb1)
  | (go_at_call 109;(with_reducible refine(HI2.out _ HB1.out).mono ?_);rintro e w2 ⟨rfl,hb2⟩;have HB2:=Lib.hid (HB1.out.trans (hb2.mono HB1.out.size));clear hb2)
  | (go_at_call 80;(with_reducible refine(HSK.out _ HB2.out).mono ?_);rintro e w3 ⟨rfl,hf3,hp3⟩;have HF3:=Lib.hid ((Fr.of (S:=fun i=>i=b) HB2.out hn).trans hf3 (fun i hi=>.inl hi));have HP3:=Lib.hid hp3;clear hf3 hp3))
 obtain⟨q0,q1,f1,_⟩:=HP3.out.cells
 go_upto_region 8 with fail
 have HP4:=Lib.hid (show PkS (w3.setCell ⟨b,1,none⟩ (.int .i64 ((k:Int)+1))) b A cap all (k+1) from HP3.out.set hk1)
 have HF4:=Lib.hid (HF3.out.set (i:=1) (.int .i64 ((k:Int)+1)) hnb (.inl rfl))
 clear q0 q1 f1 HP3 HF3 HB2 HB1 HB0 HI1 HI2 HSK
 generalize w3.setCell ⟨b,1,none⟩ (.int .i64 ((k:Int)+1))=W4 at *
 have hz4:=HF4.out.size
 have HI:=Lib.hid (HIN.out W4 HP4.out (by omega))
 clear HIN
 rcases hC:condF m (all.drop (k+1)) with f|⟨c,ts⟩
 ·rw[hC]at HI HV
  have HI2:=Lib.hid (HI.out.mono (R':=fun e w'=>e=failE f/\Fr n (fun i=>i=b) W4 w') (fun e w' h=>⟨h.res,h.fr⟩))
  clear hC
  go_wp2_with ((go_at_call 81;(with_reducible refine HI2.out.mono ?_);rintro e w5 ⟨rfl,hf5⟩;have HF5:=Lib.hid (HF4.out.trans hf5 (fun i hi=>.inl hi));clear hf5))
  exact⟨rfl,PrPost.err HV.out HF5.out rfl⟩
 ·rw[hC]at HI HV
  have HI2:=Lib.hid (HI.out.mono (R':=fun e w'=>∃T x k3,e=.returned (.iface T x)/\condP W4.heap.size c (.iface T x) w'/\PkS w' b A cap all k3/\ts=all.drop k3/\Fr n (fun i=>i=b) W4 w') (fun e w' h=>by
   obtain⟨v',k',rfl,hv,hp,he⟩:=h.res
   obtain⟨T,x,rfl⟩:=CondIn.shape hv
   exact⟨T,x,k',rfl,hv,hp,he,h.fr⟩))
  clear hC
  go_upto_region 9 with((go_at_call 81;(with_reducible refine HI2.out.mono ?_);rintro e w5 ⟨T5,x5,k5,rfl,hc5,hp5,rfl,hf5⟩;have HC5:=Lib.hid hc5;have HP5:=Lib.hid hp5;have HF5:=Lib.hid (HF4.out.trans hf5 (fun i hi=>.inl hi));clear hf5 hc5 hp5))
  clear HI HI2 HP4 HF4
  have HB6:=Lib.hid (alloc_bel w5 (.cells #[.string ⟨#[41]⟩] 9))
  have HR6:=Lib.hid (show Row (w5.alloc (.cells #[.string ⟨#[41]⟩] 9)) (some ⟨w5.heap.size,0,none⟩) (strsL rpL) from row_block (heap_alloc_new w5 _))
  have hz5:=HF5.out.size
  have hz6:=HB6.out.size
  have HP6:=Lib.hid (HP5.out.below HB6.out)
  have HC6:=Lib.hid (HC5.out.below HB6.out)
  have HF6:=Lib.hid (HF5.out.below HB6.out hn)
  have HO:=Lib.hid (sc_oneOf HP6.out (n:=n) (by omega) hnb _ rpL 1 rfl 1 HR6.out (by decide) (by decide))
  rcases hO:oneF rpL (all.drop k5) with f|⟨y,ts⟩
  ·rw[hO]at HO
   have HV2:=Lib.hid (show X=.error f from by rw[HV.out];unfold bindE;simp only[hO])
   have HO2:=Lib.hid (HO.out.mono (R':=fun e w'=>e=failE f/\Fr n (fun i=>i=b) (w5.alloc (.cells #[.string ⟨#[41]⟩] 9)) w') (fun e w' h=>⟨h.res,h.fr⟩))
   clear hO
   go_wp2_with ((go_at_call 78;(with_reducible refine HO2.out.mono ?_);rintro e w7 ⟨rfl,hf7⟩;have HF7:=Lib.hid (HF6.out.trans hf7 (fun i hi=>.inl hi));clear hf7))
   exact⟨rfl,PrPost.err HV2.out HF7.out rfl⟩
  ·rw[hO]at HO
   have HV2:=Lib.hid (show X=.ok (c,ts) from by rw[HV.out];unfold bindE;simp only[hO])
   have HO2:=Lib.hid (HO.out.mono (R':=fun e w'=>∃Y k7,e=.returned (.string Y)/\PkS w' b A cap all k7/\ts=all.drop k7/\Fr n (fun i=>i=b) (w5.alloc (.cells #[.string ⟨#[41]⟩] 9)) w') (fun e w' h=>by
    obtain⟨v',k',rfl,hv,hp,he⟩:=h.res
    exact⟨_,k',by rw[hv],hp,he,h.fr⟩))
   clear hO
   go_wp2_with ((go_at_call 78;(with_reducible refine HO2.out.mono ?_);rintro e w7 ⟨Y,k7,rfl,hp7,rfl,hf7⟩;have HP7:=Lib.hid hp7;have HC7:=Lib.hid (HC6.out.fr hf7 HP6.out.box (by omega));have HF7:=Lib.hid (HF6.out.trans hf7 (fun i hi=>.inl hi));clear hf7 hp7))
   go_ret
   exact PrPost.yes HV2.out HF7.out ((show CondIn _ _ c _ from HC7.out).mono fun k hk=>⟨by omega,hk.2⟩) HP7.out
theorem sc_single{n b:Nat}{A:Option Addr}{cap:Nat}{all:List Tok}(hnb:n<=b):∀m,m<=32->SingleOk n b A cap all m
 | 0,hm,w,k,h,hn=>by
  cases h1:isT wNot (all.drop k) with
  | true=>exact sc_single_fullA h hn hnb h1
  | false =>
   cases h2:isT yLp (all.drop k) with
   | true=>exact sc_single_fullB h hn hnb h1 h2
   | false=>exact sc_single_test h hn hnb _ 0 h1 h2
 | m+1,hm,w,k,h,hn=>by
  have ih:=sc_single (A:=A) (cap:=cap) (all:=all) hnb m (by omega)
  have e:(32:Int)-((m+1:Nat):Int)+1=32-(m:Int):=by omega
  cases h1:isT wNot (all.drop k) with
  | true=>exact sc_single_not h hn hnb _ m (by omega) (by omega) h1 (by rw[e];exact ih)
  | false =>
   cases h2:isT yLp (all.drop k) with
   | true=>exact sc_single_par h hn hnb _ m (by omega) (by omega) h1 h2 (by rw[e];exact cond_of hnb ih)
   | false=>exact sc_single_test h hn hnb _ (m+1) h1 h2
theorem sc_cond{n:Nat}{w:World}{b:Nat}{A:Option Addr}{cap k:Nat}{all:List Tok}(h:PkS w b A cap all k)(hn:n<=w.heap.size)(hnb:n<=b) :
  Calls Tryz.prog 81 #[.pointer (some ⟨b,0,none⟩),.int .i64 0] w (PrPost (condP w.heap.size) n b A cap all (condF 32 (all.drop k)) w) :=
 cond_of hnb (sc_single hnb 32 (Nat.le_refl _)) w k h hn
abbrev actB:Array Value:=#[.string ⟨#[43]⟩,.string ⟨#[45]⟩,.string ⟨#[61]⟩,.string ⟨#[107,105,108,108]⟩,.string ⟨#[119,97,116,99,104]⟩,.string ⟨#[115,116,111,112]⟩]
abbrev ruleC(A:ByteArray)(m:Int)(e:Bool)(u:Int)(v:Value):Array Value:=#[.string A,.int .i64 m,.bool e,.int .i64 u,v]
abbrev ruleZ:Obj:=.cells (ruleC ⟨#[]⟩ 0 false 0 .nilIface) 81
def condO(z:Nat)(c:Option Cond)(v:Value)(w:World):Prop:=match c with
 | none=>v=.nilIface
 | some c=>condP z c v w
structure RuleOk(r:RuleS):Prop where
 act:r.act∈actsL
 amt : -10000<=r.amt/\r.amt<=10000
 til:r.til.getD 0<=105190559
structure RuPost(n b:Nat)(x:Except Fl RuleS)(w:World)(e:Ending)(w':World):Prop where
 fr:Fr n (fun k=>k=b) w w'
 res:match x with
  | .error f=>e=failE f
  | .ok r=>∃v,e=.returned (.agg (ruleC (ofL r.act) r.amt r.til.isSome (r.til.getD 0:Nat) v))/\condO w.heap.size r.cond v w'/\RuleOk r
theorem RuPost.err{n b:Nat}{x:Except Fl RuleS}{w w':World}{f:Fl}(hx:x=.error f)(hf:Fr n (fun k=>k=b) w w'):RuPost n b x w (failE f) w':=⟨hf,by rw[hx]⟩
structure RuAt(n b:Nat)(A:Option Addr)(cap:Nat)(all:List Tok)(w:World)(px:Nat)(AS:ByteArray)(m:Int)(e:Bool)(u:Int)(v:Value)(k:Nat)(wx:World):Prop where
 pk:PkS wx b A cap all k
 box:wx.heap[px]?=some (.cells (ruleC AS m e u v) 81 (0,0))
 res:wx.heap[w.heap.size]?=some ruleZ
 fr:Fr n (fun k=>k=b) w wx
 lt:w.heap.size<px
section
variable {n b : Nat} {A : Option Addr} {cap : Nat} {all : List Tok} {w : World} {px : Nat} {AS : ByteArray} {m : Int} {e : Bool} {u : Int} {v : Value} {k : Nat} {wx wy : World}
theorem RuAt.pxz(h:RuAt n b A cap all w px AS m e u v k wx):px<wx.heap.size:=heap_lt h.box
theorem RuAt.step(h:RuAt n b A cap all w px AS m e u v k wx)(hb:b<w.heap.size){k':Nat}(hf:Fr n (fun i=>i=b) wx wy)(hp:PkS wy b A cap all k'):RuAt n b A cap all w px AS m e u v k' wy :=
 ⟨hp,(hf.oth px h.pxz (by have:=h.lt;omega)).trans h.box,(hf.oth _ (heap_lt h.res) (by omega)).trans h.res,h.fr.trans hf (fun i hi=>.inl hi),h.lt⟩
theorem RuAt.cells(h:RuAt n b A cap all w px AS m e u v k wx):wx.cell? ⟨px,0,none⟩=some (.string AS)/\wx.cell? ⟨px,1,none⟩=some (.int .i64 m)/\wx.cell? ⟨px,2,none⟩=some (.bool e)/\wx.cell? ⟨px,3,none⟩=some (.int .i64 u)/\wx.cell? ⟨px,4,none⟩=some v/\wx.frozen? ⟨px,1,none⟩=false/\wx.frozen? ⟨px,2,none⟩=false/\wx.frozen? ⟨px,3,none⟩=false/\wx.frozen? ⟨px,4,none⟩=false :=
 ⟨by rw[Lib.cell_of_heap h.box];rfl,by rw[Lib.cell_of_heap h.box];rfl,by rw[Lib.cell_of_heap h.box];rfl,by rw[Lib.cell_of_heap h.box];rfl,by rw[Lib.cell_of_heap h.box];rfl,Lib.frozen_of_heap h.box 1,Lib.frozen_of_heap h.box 2,Lib.frozen_of_heap h.box 3,Lib.frozen_of_heap h.box 4⟩
theorem RuAt.set(h:RuAt n b A cap all w px AS m e u v k wx)(hb:b<w.heap.size)(hn:n<=w.heap.size){i:Nat}{x:Value}{m':Int}{e':Bool}{u':Int}{v':Value}(hc:(ruleC AS m e u v).setIfInBounds i x=ruleC AS m' e' u' v'):RuAt n b A cap all w px AS m' e' u' v' k (wx.setCell ⟨px,i,none⟩ x) :=
 ⟨h.pk.keep (fun j hj=>heap_set_ne _ (by have:=h.lt;omega)) (by simp),by rw[<-hc];exact heap_set h.box _,(heap_set_ne _ (by have:=h.lt;omega)).trans h.res,h.fr.set _ (by have:=h.lt;omega) (.inr (by have:=h.lt;omega)),h.lt⟩
end
def NumP(n b:Nat)(A:Option Addr)(cap:Nat)(all:List Tok)(most:Nat)(w:World)(x:Except Fl (Nat × List Tok))(e:Ending)(w':World):Prop:=match x with
 | .error f=>Fr n (fun i=>i=b) w w'/\e=failE f
 | .ok a=>Fr n (fun i=>i=b) w w'/\∃k',e=.returned (.int .i64 (a.1:Int))/\PkS w' b A cap all k'/\a.2=all.drop k'/\a.1<=most
theorem RuAt.below{n b:Nat}{A:Option Addr}{cap:Nat}{all:List Tok}{w:World}{px:Nat}{AS:ByteArray}{m:Int}{e:Bool}{u:Int}{v:Value}{k:Nat}{wx wy:World}(h:RuAt n b A cap all w px AS m e u v k wx)(hb:Below wx.heap.size wx wy)(hn:n<=w.heap.size):RuAt n b A cap all w px AS m e u v k wy :=
 ⟨h.pk.below hb,(hb.block _ h.pxz).trans h.box,(hb.block _ (heap_lt h.res)).trans h.res,h.fr.below hb hn,h.lt⟩
theorem condO_below{z:Nat}{c:Option Cond}{v:Value}{w w':World}(h:condO z c v w)(hb:Below w.heap.size w w'):condO z c v w':=by
 cases c with
 | none=>exact h
 | some c=>exact condP.below h hb
theorem ruT_ne:(81:Nat)≠196/\(81:Nat)≠284:=by decide
theorem condP_setP{z:Nat}{c:Cond}{v:Value}{w:World}(h:condP z c v w){px i:Nat}{cs:Array Value}{fr:Nat × Nat}(hb:w.heap[px]?=some (.cells cs 81 fr))(hp:px<z)(u:Value):condP z c v (w.setCell ⟨px,i,none⟩ u) :=
 ((show CondIn _ w c v from h).keep (KeepA.set hb ruT_ne.1 ruT_ne.2 (fun hk=>by omega))).mono fun k hk=>⟨hk.1,by simpa using hk.2⟩
theorem ruleZ_cells{w:World}{p:Nat}(h:w.heap[p]?=some ruleZ):w.cell? ⟨p,0,none⟩=some (.string ⟨#[]⟩)/\w.cell? ⟨p,1,none⟩=some (.int .i64 0)/\w.cell? ⟨p,2,none⟩=some (.bool false)/\w.cell? ⟨p,3,none⟩=some (.int .i64 0)/\w.cell? ⟨p,4,none⟩=some .nilIface :=
 ⟨by rw[Lib.cell_of_heap h];rfl,by rw[Lib.cell_of_heap h];rfl,by rw[Lib.cell_of_heap h];rfl,by rw[Lib.cell_of_heap h];rfl,by rw[Lib.cell_of_heap h];rfl⟩
theorem condO_setP{z:Nat}{c:Option Cond}{v:Value}{w:World}(h:condO z c v w){px i:Nat}{cs:Array Value}{fr:Nat × Nat}(hb:w.heap[px]?=some (.cells cs 81 fr))(hp:px<z)(u:Value):condO z c v (w.setCell ⟨px,i,none⟩ u):=by
 cases c with
 | none=>exact h
 | some c=>exact condP_setP h hb hp u
theorem rule_put{n b:Nat}{A:Option Addr}{cap:Nat}{all:List Tok}{w:World}{px:Nat}{AS:ByteArray}{m:Int}{e:Bool}{u:Int}{v:Value}{k:Nat}{wx:World}{c:Option Cond}(h:RuAt n b A cap all w px AS m e u v k wx)(hc:condO (w.heap.size+1) c v wx)(hn:n<=w.heap.size) :
  (((((wx.setCell ⟨w.heap.size,0,none⟩ (.string AS)).setCell ⟨w.heap.size,1,none⟩ (.int .i64 m)).setCell ⟨w.heap.size,2,none⟩ (.bool e)).setCell ⟨w.heap.size,3,none⟩ (.int .i64 u)).setCell ⟨w.heap.size,4,none⟩ v).heap[w.heap.size]?=some (.cells (ruleC AS m e u v) 81 (0,0)) ∧
  Fr n (fun k=>k=b) w (((((wx.setCell ⟨w.heap.size,0,none⟩ (.string AS)).setCell ⟨w.heap.size,1,none⟩ (.int .i64 m)).setCell ⟨w.heap.size,2,none⟩ (.bool e)).setCell ⟨w.heap.size,3,none⟩ (.int .i64 u)).setCell ⟨w.heap.size,4,none⟩ v) ∧
  condO (w.heap.size+1) c v (((((wx.setCell ⟨w.heap.size,0,none⟩ (.string AS)).setCell ⟨w.heap.size,1,none⟩ (.int .i64 m)).setCell ⟨w.heap.size,2,none⟩ (.bool e)).setCell ⟨w.heap.size,3,none⟩ (.int .i64 u)).setCell ⟨w.heap.size,4,none⟩ v):=by
 have b0:=h.res
 have b1:=heap_set b0 (i:=0) (.string AS)
 have b2:=heap_set b1 (i:=1) (.int .i64 m)
 have b3:=heap_set b2 (i:=2) (.bool e)
 have b4:=heap_set b3 (i:=3) (.int .i64 u)
 have b5:=heap_set b4 (i:=4) v
 refine⟨b5,?_,?_⟩
 ·exact((((h.fr.set _ hn (.inr (Nat.le_refl _))).set _ hn (.inr (Nat.le_refl _))).set _ hn (.inr (Nat.le_refl _))).set _ hn (.inr (Nat.le_refl _))).set _ hn (.inr (Nat.le_refl _))
 ·exact condO_setP (condO_setP (condO_setP (condO_setP (condO_setP hc b0 (Nat.lt_succ_self _) _) b1 (Nat.lt_succ_self _) _) b2 (Nat.lt_succ_self _) _) b3 (Nat.lt_succ_self _) _) b4 (Nat.lt_succ_self _) _
theorem rule_ret{Q:Ending->World->Prop}{W:World}{r:Nat}{AS:ByteArray}{m:Int}{e:Bool}{u:Int}{v:Value}{T:Array Value}(hb:W.heap[r]?=some (.cells (ruleC AS m e u v) 81 (0,0)))
  (hT2:T[2]?=some (.pointer (some ⟨r,0,none⟩))) (hQ:Q (.returned (.agg (ruleC AS m e u v))) W) :
  bodyPost Tryz.prog Tryz.f50 Q .ret { tmps:=T,defers := [] } W:=by
 have c0:W.cell? ⟨r,0,none⟩=some (.string AS):=by rw[Lib.cell_of_heap hb];rfl
 have c1:W.cell? ⟨r,1,none⟩=some (.int .i64 m):=by rw[Lib.cell_of_heap hb];rfl
 have c2:W.cell? ⟨r,2,none⟩=some (.bool e):=by rw[Lib.cell_of_heap hb];rfl
 have c3:W.cell? ⟨r,3,none⟩=some (.int .i64 u):=by rw[Lib.cell_of_heap hb];rfl
 have c4:W.cell? ⟨r,4,none⟩=some v:=by rw[Lib.cell_of_heap hb];rfl
 refine bodyPost_ret (v:=.agg (ruleC AS m e u v)) ?_ rfl hQ
 simp[results,Tryz.f50,go_sem,hT2,c0,c1,c2,c3,c4]
theorem RuPost.yes{n b:Nat}{x:Except Fl RuleS}{w w':World}{act:Bs}{m:Int}{tl:Option Nat}{c:Option Cond}{AS:ByteArray}{e:Bool}{u:Int}{v:Value}(hx:x=.ok ⟨act,m,tl,c⟩)(hf:Fr n (fun k=>k=b) w w')(hc:condO (w.heap.size+1) c v w')(hA:ofL act=AS){a:Array Value}(ha:a=ruleC AS m e u v)(ht:tl.isSome=e/\((tl.getD 0:Nat):Int)=u)(hok:RuleOk ⟨act,m,tl,c⟩):RuPost n b x w (.returned (.agg a)) w':=by
 refine⟨hf,?_⟩
 rw[hx]
 refine⟨v,by rw[ha, ← hA, ← ht.1, ← ht.2],?_,hok⟩
 cases c with
 | none=>exact hc
 | some c=>exact(show CondIn _ w' c v from hc).mono fun k hk=>⟨Nat.le_of_succ_le hk.1,hk.2⟩
theorem natP_num{n b:Nat}{A:Option Addr}{cap:Nat}{all:List Tok}{w:World}{k:Nat}(most:Nat)(h:PkS w b A cap all k)(hn:n<=w.heap.size)(hnb:n<=b)(hm:most<=2147483647)(mi:Int)(hmi:mi=(most:Int)){x:Except Fl (Nat × List Tok)}(hx:numF most (all.drop k)=x) :
  Calls Tryz.prog 79 #[.pointer (some ⟨b,0,none⟩),.int .i64 mi] w (NumP n b A cap all most w x):=by
 refine(sc_number h hn hnb most mi hmi hm).mono fun e w' h=>?_
 have hr:=h.res
 have hf:=h.fr
 rw[hx]at hr
 cases x with
 | error f=>exact⟨hf,hr⟩
 | ok a =>
  obtain⟨v,k',he,hv,hp,ht⟩:=hr
  exact⟨hf,k',by rw[he,hv],hp,ht,numF_le (r:=a.2) (x:=a.1) hx⟩
theorem amtF_pm{a:Bs}{ts:List Tok}(h:a=yPlus\/a=yMinus):amtF a ts=bindE (numF 10000 ts) fun n=>.ok ((n.1:Int),n.2):=by unfold amtF;rw[if_pos h]
theorem amtF_neg{ts:List Tok}(h:isT yMinus ts=true):amtF yEq ts=bindE (numF 10000 ts.tail) fun n=>.ok (-(n.1:Int),n.2):=by unfold amtF;rw[if_neg (by decide),if_pos rfl,h];rfl
theorem amtF_eq{ts:List Tok}(h:isT yMinus ts=false):amtF yEq ts=bindE (numF 10000 ts) fun n=>.ok ((n.1:Int),n.2):=by unfold amtF;rw[if_neg (by decide),if_pos rfl,h];rfl
theorem amtF_no{a:Bs}{ts:List Tok}(h1:a≠yPlus)(h2:a≠yMinus)(h3:a≠yEq):amtF a ts=.ok (0,ts):=by unfold amtF;rw[if_neg (by simp[h1,h2]),if_neg h3]
theorem act_eq(act:Bs)(x:Bs):((ofL act).toList==x)=decide (act=x):=by
 rw[ByteArray.toList_eq]
 show(act==x)=decide (act=x)
 rw[Bool.eq_iff_iff,beq_iff_eq,decide_eq_true_iff]
attribute [local go_sem ↓] fld_tok0 fld_tok1 fld_tok3
def ruleT(act:Bs)(m:Int)(ts:List Tok):Except Fl RuleS:=bindE (tilF ts) fun u=>bindE (ifF u.2) fun c=>if endT c.2 then .ok ⟨act,m,u.1,c.1⟩ else .error (colT c.2,29)
theorem ruleF_eq(ts:List Tok):ruleF ts=bindE (oneF actsL ts) fun a=>bindE (amtF a.1 a.2) fun m=>ruleT a.1 m.1 m.2:=rfl
set_option maxHeartbeats 8000000 in
set_option maxRecDepth 100000 in
theorem sc_rule{n:Nat}{w:World}{b:Nat}{A:Option Addr}{cap k:Nat}{all:List Tok}(h:PkS w b A cap all k)(hn:n<=w.heap.size)(hnb:n<=b) :
  Calls Tryz.prog 50 #[.pointer (some ⟨b,0,none⟩)] w (RuPost n b (ruleF (all.drop k)) w):=by
 have hbw:=h.cells.2.2.2
 have HB0:=Lib.hid (alloc_bel w ruleZ)
 have HX0:=Lib.hid (heap_alloc_new w ruleZ)
 have HP0:=Lib.hid (h.below HB0.out)
 have hz0:(w.alloc ruleZ).heap.size=w.heap.size+1:=by simp
 obtain⟨X,hX⟩:∃X,ruleF (all.drop k)=X:=⟨_,rfl⟩
 have HV:=Lib.hid (show X=bindE (oneF actsL (all.drop k)) fun a=>bindE (amtF a.1 a.2) fun m=>ruleT a.1 m.1 m.2 from hX ▸ ruleF_eq _)
 rw[hX]
 clear h hX
 go_enter Tryz.func50,Tryz.ntmps50
 go_upto_region 1 with fail
 generalize w.alloc ruleZ=W0 at *
 have HB1:=Lib.hid (alloc_bel W0 (.cells actB 9))
 have HR1:=Lib.hid (show Row (W0.alloc (.cells actB 9)) (some ⟨W0.heap.size,0,none⟩) (strsL actsL) from row_block (heap_alloc_new W0 _))
 rw[hz0]at HR1
 have HP1:=Lib.hid (HP0.out.below HB1.out)
 have HX1:=Lib.hid ((HB1.out.block w.heap.size (by omega)).trans HX0.out)
 have HF1:=Lib.hid (Fr.of (S:=fun i=>i=b) (HB0.out.trans (HB1.out.mono HB0.out.size)) hn)
 have hz1:=HB1.out.size
 have HO:=Lib.hid (sc_oneOf HP1.out (n:=n) (by omega) hnb _ actsL 6 rfl 6 HR1.out (by decide) (by decide))
 rcases hO:oneF actsL (all.drop k) with f|⟨act,ts⟩
 ·rw[hO]at HO HV
  have HO2:=Lib.hid (HO.out.mono (R':=fun e w'=>e=failE f/\Fr n (fun i=>i=b) (W0.alloc (.cells actB 9)) w') (fun e w' h=>⟨h.res,h.fr⟩))
  clear hO
  go_wp2_with ((go_at_call 78;(with_reducible refine HO2.out.mono ?_);rintro e w2 ⟨rfl,hf2⟩;have HF2:=Lib.hid (HF1.out.trans hf2 (fun i hi=>.inl hi));clear hf2))
  exact⟨rfl,RuPost.err HV.out HF2.out⟩
 ·rw[hO]at HO HV
  have HO2:=Lib.hid (HO.out.mono (R':=fun e w'=>∃k2,e=.returned (.string (ofL act))/\PkS w' b A cap all k2/\ts=all.drop k2/\Fr n (fun i=>i=b) (W0.alloc (.cells actB 9)) w') (fun e w' h=>by
   obtain⟨v',k',rfl,hv,hp,he⟩:=h.res
   exact⟨k',by rw[hv],hp,he,h.fr⟩))
  have HACT:=Lib.hid (show act∈actsL from oneF_mem hO)
  have E43:=Lib.hid (act_eq act [43])
  have E45:=Lib.hid (act_eq act [45])
  have E61:=Lib.hid (act_eq act [61])
  obtain⟨AS,hAS⟩:∃AS,ofL act=AS:=⟨_,rfl⟩
  have HAS:=Lib.hid hAS
  rw[hAS]at HO2 E43 E45 E61
  clear hO hAS HO
  go_upto_block 0 with((go_at_call 78;(with_reducible refine HO2.out.mono ?_);rintro e w2 ⟨k2,rfl,hp2,rfl,hf2⟩;have HP2:=Lib.hid hp2;have HX2:=Lib.hid ((hf2.oth w.heap.size (by omega) (by omega)).trans HX1.out);have HF2:=Lib.hid (HF1.out.trans hf2 (fun i hi=>.inl hi));have hz2:=hf2.size;clear hp2 hf2))
  have HB3:=Lib.hid (alloc_bel w2 (.cells (ruleC AS 0 false 0 .nilIface) 81))
  have HR3:=Lib.hid (show RuAt n b A cap all w w2.heap.size AS 0 false 0 .nilIface k2 (w2.alloc (.cells (ruleC AS 0 false 0 .nilIface) 81)) from
   ⟨HP2.out.below HB3.out,heap_alloc_new w2 _,(HB3.out.block _ (by omega)).trans HX2.out,HF2.out.below HB3.out hn,by omega⟩)
  generalize w2.alloc (.cells (ruleC AS 0 false 0 .nilIface) 81)=W3 at *
  generalize w2.heap.size=px at *
  clear HB3 HF2 HX2 HP2 HO2 HF1 HX1 HP1 HR1 HB1 hz1 HP0 HX0 HB0 hz0
  go_cut [4,11,17] (fun _ _ _ wx=>∃m k3,RuAt n b A cap all w px AS m false 0 .nilIface k3 wx/\X=ruleT act m (all.drop k3) ∧ -10000<=m/\m<=10000)
  case first =>
   have HV2:=Lib.hid (show X=bindE (amtF act (all.drop k2)) fun m=>ruleT act m.1 m.2 from HV.out)
   have hn3:n<=W3.heap.size:=by have:=HR3.out.fr.size;omega
   clear HV
   by_cases h43:act=[43]
   ·have e43:=E43.out.trans (decide_eq_true h43)
    have H43:=Lib.hid h43;clear h43
    rcases hN:numF 10000 (all.drop k2) with f|⟨mm,ts⟩
    ·have HV3:=Lib.hid (show X=.error f from by rw[HV2.out,amtF_pm (.inl H43.out),hN];rfl)
     have HN:=Lib.hid (natP_num 10000 HR3.out.pk hn3 hnb (by omega) 10000 rfl hN)
     clear hN
     go_wp2_with ((go_at_call 79;(with_reducible refine HN.out.mono ?_);rintro e w4 ⟨hf4,rfl⟩;have HF4:=Lib.hid (HR3.out.fr.trans hf4 (fun i hi=>.inl hi));clear hf4))
     exact⟨rfl,RuPost.err HV3.out HF4.out⟩
    ·have HN:=Lib.hid (natP_num 10000 HR3.out.pk hn3 hnb (by omega) 10000 rfl hN)
     have HV3:=Lib.hid (show X=ruleT act (mm:Int) ts from by rw[HV2.out,amtF_pm (.inl H43.out),hN];rfl)
     clear hN
     go_wp2_with ((go_at_call 79;(with_reducible refine HN.out.mono ?_);rintro e w4 ⟨hf4,k3,rfl,hp4,he4,hle4⟩;simp only at he4 hle4⊢;subst he4;have HR4:=Lib.hid (HR3.out.step hbw hf4 hp4);obtain⟨_,c1,_,_,_,f1,_⟩:=HR4.out.cells;clear hf4 hp4))
     go_meet
     case rel=>exact⟨(mm:Int),k3,HR4.out.set hbw hn rfl,HV3.out,by omega,by omega⟩
   ·have e43:=E43.out.trans (decide_eq_false h43)
    have H43:=Lib.hid h43;clear h43
    by_cases h45:act=[45]
    ·have e45:=E45.out.trans (decide_eq_true h45)
     have H45:=Lib.hid h45;clear h45
     rcases hN:numF 10000 (all.drop k2) with f|⟨mm,ts⟩
     ·have HV3:=Lib.hid (show X=.error f from by rw[HV2.out,amtF_pm (.inr H45.out),hN];rfl)
      have HN:=Lib.hid (natP_num 10000 HR3.out.pk hn3 hnb (by omega) 10000 rfl hN)
      clear hN
      go_wp2_with ((go_at_call 79;(with_reducible refine HN.out.mono ?_);rintro e w4 ⟨hf4,rfl⟩;have HF4:=Lib.hid (HR3.out.fr.trans hf4 (fun i hi=>.inl hi));clear hf4))
      exact⟨rfl,RuPost.err HV3.out HF4.out⟩
     ·have HN:=Lib.hid (natP_num 10000 HR3.out.pk hn3 hnb (by omega) 10000 rfl hN)
      have HV3:=Lib.hid (show X=ruleT act (mm:Int) ts from by rw[HV2.out,amtF_pm (.inr H45.out),hN];rfl)
      clear hN
      go_wp2_with ((go_at_call 79;(with_reducible refine HN.out.mono ?_);rintro e w4 ⟨hf4,k3,rfl,hp4,he4,hle4⟩;simp only at he4 hle4⊢;subst he4;have HR4:=Lib.hid (HR3.out.step hbw hf4 hp4);obtain⟨_,c1,_,_,_,f1,_⟩:=HR4.out.cells;clear hf4 hp4))
      go_meet
      case rel=>exact⟨(mm:Int),k3,HR4.out.set hbw hn rfl,HV3.out,by omega,by omega⟩
    ·have e45:=E45.out.trans (decide_eq_false h45)
     have H45:=Lib.hid h45;clear h45
     by_cases h61:act=[61]
     ·have e61:=E61.out.trans (decide_eq_true h61)
      have H61:=Lib.hid h61;clear h61
      obtain rfl:act=yEq:=H61.out
      have HS:=Lib.hid (sc_skip HR3.out.pk (n:=n) hn3 hnb ⟨#[45]⟩)
      have HTW:=Lib.hid (show toL ⟨#[45]⟩=yMinus from rfl)
      rw[HTW.out]at HS
      cases hq:isT yMinus (all.drop k2) with
      | true =>
       rw[hq]at HS
       have HS2:=Lib.hid (HS.out.mono (R':=fun e w'=>e=.returned (.bool true)/\Fr n (fun i=>i=b) W3 w'/\PkS w' b A cap all (k2+1)) (fun e w' h=>⟨h.ret,h.fr,h.pk⟩))
       clear HS
       rcases hN:numF 10000 (all.drop (k2+1)) with f|⟨mm,ts⟩
       ·have HV3:=Lib.hid (show X=.error f from by rw[HV2.out,amtF_neg hq,List.tail_drop,hN];rfl)
        have HN:=Lib.hid (fun (wx:World) (hp:PkS wx b A cap all (k2+1)) (hz:n<=wx.heap.size)=>natP_num 10000 hp hz hnb (by omega) 10000 rfl hN)
        clear hN hq
        go_wp2_with (first
         | (go_at_call 80;(with_reducible refine HS2.out.mono ?_);rintro e w4 ⟨rfl,hf4,hp4⟩;have HR4:=Lib.hid (HR3.out.step hbw hf4 hp4);have hz4:=hf4.size;clear hf4 hp4)
         | (go_at_call 79;(with_reducible refine(HN.out _ HR4.out.pk (by omega)).mono ?_);rintro e w5 ⟨hf5,rfl⟩;have HF5:=Lib.hid (HR4.out.fr.trans hf5 (fun i hi=>.inl hi));clear hf5))
        exact⟨rfl,RuPost.err HV3.out HF5.out⟩
       ·have HN:=Lib.hid (fun (wx:World) (hp:PkS wx b A cap all (k2+1)) (hz:n<=wx.heap.size)=>natP_num 10000 hp hz hnb (by omega) 10000 rfl hN)
        have HV3:=Lib.hid (show X=ruleT yEq (-(mm:Int)) ts from by rw[HV2.out,amtF_neg hq,List.tail_drop,hN];rfl)
        clear hN hq
        have hmm:=HN.out
        clear hmm
        go_wp2_with (first
         | (go_at_call 80;(with_reducible refine HS2.out.mono ?_);rintro e w4 ⟨rfl,hf4,hp4⟩;have HR4:=Lib.hid (HR3.out.step hbw hf4 hp4);have hz4:=hf4.size;clear hf4 hp4)
         | (go_at_call 79;(with_reducible refine(HN.out _ HR4.out.pk (by omega)).mono ?_);rintro e w5 ⟨hf5,k5,rfl,hp5,he5,hle5⟩;simp only at he5 hle5⊢;subst he5;have HR5:=Lib.hid (HR4.out.step hbw hf5 hp5);obtain⟨_,c1,_,_,_,f1,_⟩:=HR5.out.cells;clear hf5 hp5))
        go_meet
        case rel=>exact⟨-(mm:Int),k5,HR5.out.set hbw hn (by simp),HV3.out,by omega,by omega⟩
      | false =>
       rw[hq]at HS
       have HS2:=Lib.hid (HS.out.mono (R':=fun e w'=>e=.returned (.bool false)/\Fr n (fun i=>i=b) W3 w'/\PkS w' b A cap all k2) (fun e w' h=>⟨h.ret,h.fr,h.pk⟩))
       clear HS
       rcases hN:numF 10000 (all.drop k2) with f|⟨mm,ts⟩
       ·have HV3:=Lib.hid (show X=.error f from by rw[HV2.out,amtF_eq hq,hN];rfl)
        have HN:=Lib.hid (fun (wx:World) (hp:PkS wx b A cap all (k2)) (hz:n<=wx.heap.size)=>natP_num 10000 hp hz hnb (by omega) 10000 rfl hN)
        clear hN hq
        go_wp2_with (first
         | (go_at_call 80;(with_reducible refine HS2.out.mono ?_);rintro e w4 ⟨rfl,hf4,hp4⟩;have HR4:=Lib.hid (HR3.out.step hbw hf4 hp4);have hz4:=hf4.size;clear hf4 hp4)
         | (go_at_call 79;(with_reducible refine(HN.out _ HR4.out.pk (by omega)).mono ?_);rintro e w5 ⟨hf5,rfl⟩;have HF5:=Lib.hid (HR4.out.fr.trans hf5 (fun i hi=>.inl hi));clear hf5))
        exact⟨rfl,RuPost.err HV3.out HF5.out⟩
       ·have HN:=Lib.hid (fun (wx:World) (hp:PkS wx b A cap all (k2)) (hz:n<=wx.heap.size)=>natP_num 10000 hp hz hnb (by omega) 10000 rfl hN)
        have HV3:=Lib.hid (show X=ruleT yEq ((mm:Int)) ts from by rw[HV2.out,amtF_eq hq,hN];rfl)
        clear hN hq
        have hmm:=HN.out
        clear hmm
        go_wp2_with (first
         | (go_at_call 80;(with_reducible refine HS2.out.mono ?_);rintro e w4 ⟨rfl,hf4,hp4⟩;have HR4:=Lib.hid (HR3.out.step hbw hf4 hp4);have hz4:=hf4.size;clear hf4 hp4)
         | (go_at_call 79;(with_reducible refine(HN.out _ HR4.out.pk (by omega)).mono ?_);rintro e w5 ⟨hf5,k5,rfl,hp5,he5,hle5⟩;simp only at he5 hle5⊢;subst he5;have HR5:=Lib.hid (HR4.out.step hbw hf5 hp5);obtain⟨_,c1,_,_,_,f1,_⟩:=HR5.out.cells;clear hf5 hp5))
        go_meet
        case rel=>exact⟨(mm:Int),k5,HR5.out.set hbw hn (by simp),HV3.out,by omega,by omega⟩
     ·have e61:=E61.out.trans (decide_eq_false h61)
      have HV3:=Lib.hid (show X=ruleT act 0 (all.drop k2) from by rw[HV2.out,amtF_no H43.out H45.out h61];rfl)
      clear h61
      go_wp2_with fail
      go_meet
      case rel=>exact⟨0,k2,HR3.out,HV3.out,by omega,by omega⟩
  case rest =>
   obtain⟨m,k3,hR3,hX3,hm1,hm2⟩:=hcut
   clear HR3 HV
   have HR3:=Lib.hid hR3;have HV:=Lib.hid hX3
   clear hR3 hX3
   have hz3:=HR3.out.fr.size
   have HS:=Lib.hid (sc_skip HR3.out.pk (n:=n) (by omega) hnb ⟨#[117,110,116,105,108]⟩)
   have HTW:=Lib.hid (show toL ⟨#[117,110,116,105,108]⟩=wUntil from rfl)
   rw[HTW.out]at HS
   cases hq:isT wUntil (all.drop k3) with
   | false =>
    rw[hq]at HS
    have HS2:=Lib.hid (HS.out.mono (R':=fun e w'=>e=.returned (.bool false)/\Fr n (fun i=>i=b) wc w'/\PkS w' b A cap all k3) (fun e w' h=>⟨h.ret,h.fr,h.pk⟩))
    have HVU:=Lib.hid (show X=bindE (ifF (all.drop k3)) fun c=>if endT c.2 then .ok ⟨act,m,none,c.1⟩ else .error (colT c.2,29) from by rw[HV.out];unfold ruleT tilF;rw[hq];rfl)
    clear HS hq
    go_upto_region 14 with((go_at_call 80;(with_reducible refine HS2.out.mono ?_);rintro e wU ⟨rfl,hf4,hp4⟩;have HRU:=Lib.hid (HR3.out.step hbw hf4 hp4);clear hf4 hp4))
    obtain⟨tl,htl⟩:∃tl:Option Nat,none=tl:=⟨_,rfl⟩
    have HTL:=Lib.hid (show tl.isSome=false/\((tl.getD 0:Nat):Int)=0 from by rw[<-htl];exact⟨rfl,rfl⟩)
    have HTM:=Lib.hid (show tl.getD 0<=105190559 from by rw[<-htl];exact Nat.zero_le _)
    rw[htl]at HVU
    obtain⟨kU,hkU⟩:∃kU,k3=kU:=⟨_,rfl⟩
    rw[hkU]at HVU HRU
    clear htl hkU HV HR3
    have HSI:=Lib.hid (sc_skip HRU.out.pk (n:=n) (by have:=HRU.out.fr.size;omega) hnb ⟨#[105,102]⟩)
    have HTI:=Lib.hid (show toL ⟨#[105,102]⟩=wIf from rfl)
    rw[HTI.out]at HSI
    cases hqi:isT wIf (all.drop kU) with
    | false =>
     rw[hqi]at HSI
     have HSI2:=Lib.hid (HSI.out.mono (R':=fun e w'=>e=.returned (.bool false)/\Fr n (fun i=>i=b) wU w'/\PkS w' b A cap all kU) (fun e w' h=>⟨h.ret,h.fr,h.pk⟩))
     have HVI:=Lib.hid (show X=if endT (all.drop kU) then .ok ⟨act,m,tl,none⟩ else .error (colT (all.drop kU),29) from by rw[HVU.out];unfold ifF;rw[hqi];rfl)
     clear HSI hqi
     go_upto_region 16 with((go_at_call 80;(with_reducible refine HSI2.out.mono ?_);rintro e wI ⟨rfl,hfI,hpI⟩;have HRI:=Lib.hid (HRU.out.step hbw hfI hpI);clear hfI hpI))
     have HCI:=Lib.hid (show condO (w.heap.size+1) none .nilIface wI from rfl)
     obtain⟨kI,hkI⟩:∃kI,kU=kI:=⟨_,rfl⟩
     rw[hkI]at HRI HVI
     clear hkI HVU
     obtain⟨t0,ht0⟩:∃t0,all[kI]'HRI.out.pk.lt=t0:=⟨_,rfl⟩
     obtain⟨tk,tt,tn,tc⟩:=t0
     have HNW:=Lib.hid (now_at HRI.out.pk ht0 rfl)
     have HET:=Lib.hid (show endT (all.drop kI)=decide (tk=0) from by rw[drop_tok HRI.out.pk.lt,ht0];show(tk==0)=decide (tk=0);rw[Bool.eq_iff_iff,beq_iff_eq,decide_eq_true_iff])
     have HWR:=Lib.hid (fun wx (hb:Below wI.heap.size wI wx)=>sc_wrong (HRI.out.pk.below hb))
     by_cases htk:tk=0
     ·have HVE:=Lib.hid (HVI.out.trans (if_pos (HET.out.trans (decide_eq_true htk))))
      have htk2:((tk:Int) != 0)=false:=by simp[htk]
      clear htk HET ht0
      go_upto_region 18 with((go_at_call 82;(with_reducible refine HNW.out.mono ?_);rintro e w9 ⟨rfl,hb9⟩;have HR9:=Lib.hid (HRI.out.below hb9 hn);have HC9:=Lib.hid (condO_below HCI.out hb9);clear hb9))
      obtain⟨c0,c1,c2,c3,c4,_⟩:=HR9.out.cells
      have HZ:=HR9.out.res
      have HZ2:=Lib.hid HZ
      have g0:=Lib.frozen_of_heap HZ 0
      have g1:=Lib.frozen_of_heap HZ 1
      have g2:=Lib.frozen_of_heap HZ 2
      have g3:=Lib.frozen_of_heap HZ 3
      have g4:=Lib.frozen_of_heap HZ 4
      obtain⟨z0,z1,z2,z3,z4⟩:=ruleZ_cells HZ
      have hrs:=heap_lt HZ
      clear HZ
      go_wp2_with fail
      refine rule_ret (rule_put HR9.out HC9.out hn).1 rfl ?_
      exact RuPost.yes HVE.out (rule_put HR9.out HC9.out hn).2.1 (rule_put HR9.out HC9.out hn).2.2 HAS.out rfl HTL.out ⟨HACT.out,⟨hm1,hm2⟩,HTM.out⟩
     ·have HVE:=Lib.hid (HVI.out.trans (if_neg (by rw[HET.out];simp[htk])))
      have htk2:((tk:Int) != 0)=true:=by simpa using htk
      clear htk HET ht0
      go_wp2_with (first
       | (go_at_call 82;(with_reducible refine HNW.out.mono ?_);rintro e w9 ⟨rfl,hb9⟩;have HB9:=Lib.hid hb9;clear hb9)
       | (go_at_call 83;(with_reducible refine(HWR.out _ HB9.out).mono ?_);rintro e w10 ⟨rfl,hb10⟩;have HB10:=Lib.hid (HB9.out.trans (hb10.mono HB9.out.size));clear hb10))
      exact⟨rfl,RuPost.err HVE.out (HRI.out.fr.below HB10.out hn)⟩
    | true =>
     rw[hqi]at HSI
     have HSI2:=Lib.hid (HSI.out.mono (R':=fun e w'=>e=.returned (.bool true)/\Fr n (fun i=>i=b) wU w'/\PkS w' b A cap all (kU+1)) (fun e w' h=>⟨h.ret,h.fr,h.pk⟩))
     have HCD:=Lib.hid (fun (wx:World) (hp:PkS wx b A cap all (kU+1)) (hz:n<=wx.heap.size)=>sc_cond hp hz hnb)
     rcases hcd:condF 32 (all.drop (kU+1)) with f|⟨c,ts⟩
     ·have HVE:=Lib.hid (show X=.error f from by rw[HVU.out];unfold ifF;rw[hqi];simp only[if_true,List.tail_drop,hcd,bindE])
      have HCD2:=Lib.hid (show ∀(wx:World) (hp:PkS wx b A cap all (kU+1)) (hz:n<=wx.heap.size),Calls Tryz.prog 81 #[.pointer (some ⟨b,0,none⟩),.int .i64 0] wx (fun e w'=>e=failE f/\Fr n (fun i=>i=b) wx w') from fun wx hp hz=>(HCD.out wx hp hz).mono fun e w' h=>by
       have hr:=h.res;rw[hcd]at hr;exact⟨hr,h.fr⟩)
      clear HSI hqi HCD hcd
      go_wp2_with (first
       | (go_at_call 80;(with_reducible refine HSI2.out.mono ?_);rintro e w7 ⟨rfl,hf7,hp7⟩;have HR7:=Lib.hid (HRU.out.step hbw hf7 hp7);have hz7:=HR7.out.fr.size;clear hf7 hp7)
       | (go_at_call 81;(with_reducible refine(HCD2.out _ HR7.out.pk (by omega)).mono ?_);rintro e w8 ⟨rfl,hf8⟩;have HF8:=Lib.hid (HR7.out.fr.trans hf8 (fun i hi=>.inl hi));clear hf8))
      exact⟨rfl,RuPost.err HVE.out HF8.out⟩
     ·have HVI0:=Lib.hid (show X=if endT ts then .ok ⟨act,m,tl,some c⟩ else .error (colT ts,29) from by rw[HVU.out];unfold ifF;rw[hqi];simp only[if_true,List.tail_drop,hcd,bindE])
      have HCD2:=Lib.hid (show ∀(wx:World) (hp:PkS wx b A cap all (kU+1)) (hz:n<=wx.heap.size),Calls Tryz.prog 81 #[.pointer (some ⟨b,0,none⟩),.int .i64 0] wx (fun e w'=>∃T x k8,e=.returned (.iface T x)/\condP wx.heap.size c (.iface T x) w'/\PkS w' b A cap all k8/\ts=all.drop k8/\Fr n (fun i=>i=b) wx w') from fun wx hp hz=>(HCD.out wx hp hz).mono fun e w' h=>by
       have hr:=h.res
       rw[hcd]at hr
       obtain⟨v',k',rfl,hv,hp,he⟩:=hr
       obtain⟨T,x,rfl⟩:=CondIn.shape hv
       exact⟨T,x,k',rfl,hv,hp,he,h.fr⟩)
      clear HSI hqi HCD hcd
      go_upto_region 16 with(first
       | (go_at_call 80;(with_reducible refine HSI2.out.mono ?_);rintro e w7 ⟨rfl,hf7,hp7⟩;have HR7:=Lib.hid (HRU.out.step hbw hf7 hp7);have hz7:=HR7.out.fr.size;have hpz7:=HR7.out.pxz;have hlx7:=HR7.out.lt;clear hf7 hp7)
       | (go_at_call 81;(with_reducible refine(HCD2.out _ HR7.out.pk (by omega)).mono ?_);rintro e w8 ⟨T8,x8,kI,rfl,hc8,hp8,rfl,hf8⟩;have HC8:=Lib.hid hc8;have HR8:=Lib.hid (HR7.out.step hbw hf8 hp8);obtain⟨_,_,_,_,c4,_,_,_,f4⟩:=HR8.out.cells;clear hf8 hp8 hc8))
      have HRI:=Lib.hid (HR8.out.set (x:=.iface T8 x8) (i:=4) hbw hn rfl)
      have HCI:=Lib.hid (show condO (w.heap.size+1) (some c) (.iface T8 x8) (w8.setCell ⟨px,4,none⟩ (.iface T8 x8)) from(condP_setP HC8.out HR8.out.box hpz7 _).mono fun k hk=>⟨by omega,hk.2⟩)
      have HVI:=HVI0
      clear c4 f4 HC8 HR8 HVU HVI0
      generalize w8.setCell ⟨px,4,none⟩ (.iface T8 x8)=wI at *
      obtain⟨t0,ht0⟩:∃t0,all[kI]'HRI.out.pk.lt=t0:=⟨_,rfl⟩
      obtain⟨tk,tt,tn,tc⟩:=t0
      have HNW:=Lib.hid (now_at HRI.out.pk ht0 rfl)
      have HET:=Lib.hid (show endT (all.drop kI)=decide (tk=0) from by rw[drop_tok HRI.out.pk.lt,ht0];show(tk==0)=decide (tk=0);rw[Bool.eq_iff_iff,beq_iff_eq,decide_eq_true_iff])
      have HWR:=Lib.hid (fun wx (hb:Below wI.heap.size wI wx)=>sc_wrong (HRI.out.pk.below hb))
      by_cases htk:tk=0
      ·have HVE:=Lib.hid (HVI.out.trans (if_pos (HET.out.trans (decide_eq_true htk))))
       have htk2:((tk:Int) != 0)=false:=by simp[htk]
       clear htk HET ht0
       go_upto_region 18 with((go_at_call 82;(with_reducible refine HNW.out.mono ?_);rintro e w9 ⟨rfl,hb9⟩;have HR9:=Lib.hid (HRI.out.below hb9 hn);have HC9:=Lib.hid (condO_below HCI.out hb9);clear hb9))
       obtain⟨c0,c1,c2,c3,c4,_⟩:=HR9.out.cells
       have HZ:=HR9.out.res
       have HZ2:=Lib.hid HZ
       have g0:=Lib.frozen_of_heap HZ 0
       have g1:=Lib.frozen_of_heap HZ 1
       have g2:=Lib.frozen_of_heap HZ 2
       have g3:=Lib.frozen_of_heap HZ 3
       have g4:=Lib.frozen_of_heap HZ 4
       obtain⟨z0,z1,z2,z3,z4⟩:=ruleZ_cells HZ
       have hrs:=heap_lt HZ
       clear HZ
       go_wp2_with fail
       refine rule_ret (rule_put HR9.out HC9.out hn).1 rfl ?_
       exact RuPost.yes HVE.out (rule_put HR9.out HC9.out hn).2.1 (rule_put HR9.out HC9.out hn).2.2 HAS.out rfl HTL.out ⟨HACT.out,⟨hm1,hm2⟩,HTM.out⟩
      ·have HVE:=Lib.hid (HVI.out.trans (if_neg (by rw[HET.out];simp[htk])))
       have htk2:((tk:Int) != 0)=true:=by simpa using htk
       clear htk HET ht0
       go_wp2_with (first
        | (go_at_call 82;(with_reducible refine HNW.out.mono ?_);rintro e w9 ⟨rfl,hb9⟩;have HB9:=Lib.hid hb9;clear hb9)
        | (go_at_call 83;(with_reducible refine(HWR.out _ HB9.out).mono ?_);rintro e w10 ⟨rfl,hb10⟩;have HB10:=Lib.hid (HB9.out.trans (hb10.mono HB9.out.size));clear hb10))
       exact⟨rfl,RuPost.err HVE.out (HRI.out.fr.below HB10.out hn)⟩
   | true =>
    rw[hq]at HS
    have HS2:=Lib.hid (HS.out.mono (R':=fun e w'=>e=.returned (.bool true)/\Fr n (fun i=>i=b) wc w'/\PkS w' b A cap all (k3+1)) (fun e w' h=>⟨h.ret,h.fr,h.pk⟩))
    have HN0:=Lib.hid (fun (wx:World) (hp:PkS wx b A cap all (k3+1)) (hz:n<=wx.heap.size) x hx=>natP_num (x:=x) 105190559 hp hz hnb (by omega) 105190559 rfl hx)
    rcases hN:numF 105190559 (all.drop (k3+1)) with f|⟨mm,ts⟩
    ·have HVE:=Lib.hid (show X=.error f from by rw[HV.out];unfold ruleT tilF;rw[hq];simp only[if_true,List.tail_drop,hN,bindE])
     have HN:=Lib.hid (fun (wx:World) (hp:PkS wx b A cap all (k3+1)) (hz:n<=wx.heap.size)=>HN0.out wx hp hz _ hN)
     clear hN HN0 HS hq
     go_wp2_with (first
      | (go_at_call 80;(with_reducible refine HS2.out.mono ?_);rintro e w4 ⟨rfl,hf4,hp4⟩;have HR4:=Lib.hid (HR3.out.step hbw hf4 hp4);obtain⟨_,_,c2,_,_,_,f2,_⟩:=HR4.out.cells;have HR5:=Lib.hid (HR4.out.set (i:=2) (x:=.bool true) hbw hn rfl);have hz5:=HR5.out.fr.size;clear hf4 hp4)
      | (go_at_call 79;(with_reducible refine(HN.out _ HR5.out.pk (by omega)).mono ?_);rintro e w6 ⟨hf6,rfl⟩;have HF6:=Lib.hid (HR5.out.fr.trans hf6 (fun i hi=>.inl hi));clear hf6))
     exact⟨rfl,RuPost.err HVE.out HF6.out⟩
    ·have HVU0:=Lib.hid (show X=bindE (ifF ts) fun c=>if endT c.2 then .ok ⟨act,m,some mm,c.1⟩ else .error (colT c.2,29) from by rw[HV.out];unfold ruleT tilF;rw[hq];simp only[if_true,List.tail_drop,hN,bindE])
     have HN:=Lib.hid (fun (wx:World) (hp:PkS wx b A cap all (k3+1)) (hz:n<=wx.heap.size)=>HN0.out wx hp hz _ hN)
     clear hN HN0 HS hq
     go_upto_region 14 with(first
      | (go_at_call 80;(with_reducible refine HS2.out.mono ?_);rintro e w4 ⟨rfl,hf4,hp4⟩;have HR4:=Lib.hid (HR3.out.step hbw hf4 hp4);obtain⟨_,_,c2,_,_,_,f2,_⟩:=HR4.out.cells;have HR5:=Lib.hid (HR4.out.set (i:=2) (x:=.bool true) hbw hn rfl);have hz5:=HR5.out.fr.size;clear hf4 hp4)
      | (go_at_call 79;(with_reducible refine(HN.out _ HR5.out.pk (by omega)).mono ?_);rintro e w6 ⟨hf6,kU,rfl,hp6,he6,hle6⟩;simp only at he6 hle6⊢;subst he6;have HR6:=Lib.hid (HR5.out.step hbw hf6 hp6);obtain⟨_,_,_,c3,_,_,_,f3,_⟩:=HR6.out.cells;clear hf6 hp6))
     have HRU:=Lib.hid (HR6.out.set (i:=3) (x:=.int .i64 (mm:Int)) hbw hn rfl)
     have HVU:=HVU0
     clear c2 f2 c3 f3 HR6 HR5 HR4 HR3 HV HVU0 hz5 HN HS2
     generalize w6.setCell ⟨px,3,none⟩ (.int .i64 (mm:Int))=wU at *
     obtain⟨tl,htl⟩:∃tl:Option Nat,some mm=tl:=⟨_,rfl⟩
     have HTL:=Lib.hid (show tl.isSome=true/\((tl.getD 0:Nat):Int)=(mm:Int) from by rw[<-htl];exact⟨rfl,rfl⟩)
     have HTM:=Lib.hid (show tl.getD 0<=105190559 from by rw[<-htl];exact hle6)
     rw[htl]at HVU
     clear htl
     have HSI:=Lib.hid (sc_skip HRU.out.pk (n:=n) (by have:=HRU.out.fr.size;omega) hnb ⟨#[105,102]⟩)
     have HTI:=Lib.hid (show toL ⟨#[105,102]⟩=wIf from rfl)
     rw[HTI.out]at HSI
     cases hqi:isT wIf (all.drop kU) with
     | false =>
      rw[hqi]at HSI
      have HSI2:=Lib.hid (HSI.out.mono (R':=fun e w'=>e=.returned (.bool false)/\Fr n (fun i=>i=b) wU w'/\PkS w' b A cap all kU) (fun e w' h=>⟨h.ret,h.fr,h.pk⟩))
      have HVI:=Lib.hid (show X=if endT (all.drop kU) then .ok ⟨act,m,tl,none⟩ else .error (colT (all.drop kU),29) from by rw[HVU.out];unfold ifF;rw[hqi];rfl)
      clear HSI hqi
      go_upto_region 16 with((go_at_call 80;(with_reducible refine HSI2.out.mono ?_);rintro e wI ⟨rfl,hfI,hpI⟩;have HRI:=Lib.hid (HRU.out.step hbw hfI hpI);clear hfI hpI))
      have HCI:=Lib.hid (show condO (w.heap.size+1) none .nilIface wI from rfl)
      obtain⟨kI,hkI⟩:∃kI,kU=kI:=⟨_,rfl⟩
      rw[hkI]at HRI HVI
      clear hkI HVU
      obtain⟨t0,ht0⟩:∃t0,all[kI]'HRI.out.pk.lt=t0:=⟨_,rfl⟩
      obtain⟨tk,tt,tn,tc⟩:=t0
      have HNW:=Lib.hid (now_at HRI.out.pk ht0 rfl)
      have HET:=Lib.hid (show endT (all.drop kI)=decide (tk=0) from by rw[drop_tok HRI.out.pk.lt,ht0];show(tk==0)=decide (tk=0);rw[Bool.eq_iff_iff,beq_iff_eq,decide_eq_true_iff])
      have HWR:=Lib.hid (fun wx (hb:Below wI.heap.size wI wx)=>sc_wrong (HRI.out.pk.below hb))
      by_cases htk:tk=0
      ·have HVE:=Lib.hid (HVI.out.trans (if_pos (HET.out.trans (decide_eq_true htk))))
       have htk2:((tk:Int) != 0)=false:=by simp[htk]
       clear htk HET ht0
       go_upto_region 18 with((go_at_call 82;(with_reducible refine HNW.out.mono ?_);rintro e w9 ⟨rfl,hb9⟩;have HR9:=Lib.hid (HRI.out.below hb9 hn);have HC9:=Lib.hid (condO_below HCI.out hb9);clear hb9))
       obtain⟨c0,c1,c2,c3,c4,_⟩:=HR9.out.cells
       have HZ:=HR9.out.res
       have HZ2:=Lib.hid HZ
       have g0:=Lib.frozen_of_heap HZ 0
       have g1:=Lib.frozen_of_heap HZ 1
       have g2:=Lib.frozen_of_heap HZ 2
       have g3:=Lib.frozen_of_heap HZ 3
       have g4:=Lib.frozen_of_heap HZ 4
       obtain⟨z0,z1,z2,z3,z4⟩:=ruleZ_cells HZ
       have hrs:=heap_lt HZ
       clear HZ
       go_wp2_with fail
       refine rule_ret (rule_put HR9.out HC9.out hn).1 rfl ?_
       exact RuPost.yes HVE.out (rule_put HR9.out HC9.out hn).2.1 (rule_put HR9.out HC9.out hn).2.2 HAS.out rfl HTL.out ⟨HACT.out,⟨hm1,hm2⟩,HTM.out⟩
      ·have HVE:=Lib.hid (HVI.out.trans (if_neg (by rw[HET.out];simp[htk])))
       have htk2:((tk:Int) != 0)=true:=by simpa using htk
       clear htk HET ht0
       go_wp2_with (first
        | (go_at_call 82;(with_reducible refine HNW.out.mono ?_);rintro e w9 ⟨rfl,hb9⟩;have HB9:=Lib.hid hb9;clear hb9)
        | (go_at_call 83;(with_reducible refine(HWR.out _ HB9.out).mono ?_);rintro e w10 ⟨rfl,hb10⟩;have HB10:=Lib.hid (HB9.out.trans (hb10.mono HB9.out.size));clear hb10))
       exact⟨rfl,RuPost.err HVE.out (HRI.out.fr.below HB10.out hn)⟩
     | true =>
      rw[hqi]at HSI
      have HSI2:=Lib.hid (HSI.out.mono (R':=fun e w'=>e=.returned (.bool true)/\Fr n (fun i=>i=b) wU w'/\PkS w' b A cap all (kU+1)) (fun e w' h=>⟨h.ret,h.fr,h.pk⟩))
      have HCD:=Lib.hid (fun (wx:World) (hp:PkS wx b A cap all (kU+1)) (hz:n<=wx.heap.size)=>sc_cond hp hz hnb)
      rcases hcd:condF 32 (all.drop (kU+1)) with f|⟨c,ts⟩
      ·have HVE:=Lib.hid (show X=.error f from by rw[HVU.out];unfold ifF;rw[hqi];simp only[if_true,List.tail_drop,hcd,bindE])
       have HCD2:=Lib.hid (show ∀(wx:World) (hp:PkS wx b A cap all (kU+1)) (hz:n<=wx.heap.size),Calls Tryz.prog 81 #[.pointer (some ⟨b,0,none⟩),.int .i64 0] wx (fun e w'=>e=failE f/\Fr n (fun i=>i=b) wx w') from fun wx hp hz=>(HCD.out wx hp hz).mono fun e w' h=>by
        have hr:=h.res;rw[hcd]at hr;exact⟨hr,h.fr⟩)
       clear HSI hqi HCD hcd
       go_wp2_with (first
        | (go_at_call 80;(with_reducible refine HSI2.out.mono ?_);rintro e w7 ⟨rfl,hf7,hp7⟩;have HR7:=Lib.hid (HRU.out.step hbw hf7 hp7);have hz7:=HR7.out.fr.size;clear hf7 hp7)
        | (go_at_call 81;(with_reducible refine(HCD2.out _ HR7.out.pk (by omega)).mono ?_);rintro e w8 ⟨rfl,hf8⟩;have HF8:=Lib.hid (HR7.out.fr.trans hf8 (fun i hi=>.inl hi));clear hf8))
       exact⟨rfl,RuPost.err HVE.out HF8.out⟩
      ·have HVI0:=Lib.hid (show X=if endT ts then .ok ⟨act,m,tl,some c⟩ else .error (colT ts,29) from by rw[HVU.out];unfold ifF;rw[hqi];simp only[if_true,List.tail_drop,hcd,bindE])
       have HCD2:=Lib.hid (show ∀(wx:World) (hp:PkS wx b A cap all (kU+1)) (hz:n<=wx.heap.size),Calls Tryz.prog 81 #[.pointer (some ⟨b,0,none⟩),.int .i64 0] wx (fun e w'=>∃T x k8,e=.returned (.iface T x)/\condP wx.heap.size c (.iface T x) w'/\PkS w' b A cap all k8/\ts=all.drop k8/\Fr n (fun i=>i=b) wx w') from fun wx hp hz=>(HCD.out wx hp hz).mono fun e w' h=>by
        have hr:=h.res
        rw[hcd]at hr
        obtain⟨v',k',rfl,hv,hp,he⟩:=hr
        obtain⟨T,x,rfl⟩:=CondIn.shape hv
        exact⟨T,x,k',rfl,hv,hp,he,h.fr⟩)
       clear HSI hqi HCD hcd
       go_upto_region 16 with(first
        | (go_at_call 80;(with_reducible refine HSI2.out.mono ?_);rintro e w7 ⟨rfl,hf7,hp7⟩;have HR7:=Lib.hid (HRU.out.step hbw hf7 hp7);have hz7:=HR7.out.fr.size;have hpz7:=HR7.out.pxz;have hlx7:=HR7.out.lt;clear hf7 hp7)
        | (go_at_call 81;(with_reducible refine(HCD2.out _ HR7.out.pk (by omega)).mono ?_);rintro e w8 ⟨T8,x8,kI,rfl,hc8,hp8,rfl,hf8⟩;have HC8:=Lib.hid hc8;have HR8:=Lib.hid (HR7.out.step hbw hf8 hp8);obtain⟨_,_,_,_,c4,_,_,_,f4⟩:=HR8.out.cells;clear hf8 hp8 hc8))
       have HRI:=Lib.hid (HR8.out.set (x:=.iface T8 x8) (i:=4) hbw hn rfl)
       have HCI:=Lib.hid (show condO (w.heap.size+1) (some c) (.iface T8 x8) (w8.setCell ⟨px,4,none⟩ (.iface T8 x8)) from(condP_setP HC8.out HR8.out.box hpz7 _).mono fun k hk=>⟨by omega,hk.2⟩)
       have HVI:=HVI0
       clear c4 f4 HC8 HR8 HVU HVI0
       generalize w8.setCell ⟨px,4,none⟩ (.iface T8 x8)=wI at *
       obtain⟨t0,ht0⟩:∃t0,all[kI]'HRI.out.pk.lt=t0:=⟨_,rfl⟩
       obtain⟨tk,tt,tn,tc⟩:=t0
       have HNW:=Lib.hid (now_at HRI.out.pk ht0 rfl)
       have HET:=Lib.hid (show endT (all.drop kI)=decide (tk=0) from by rw[drop_tok HRI.out.pk.lt,ht0];show(tk==0)=decide (tk=0);rw[Bool.eq_iff_iff,beq_iff_eq,decide_eq_true_iff])
       have HWR:=Lib.hid (fun wx (hb:Below wI.heap.size wI wx)=>sc_wrong (HRI.out.pk.below hb))
       by_cases htk:tk=0
       ·have HVE:=Lib.hid (HVI.out.trans (if_pos (HET.out.trans (decide_eq_true htk))))
        have htk2:((tk:Int) != 0)=false:=by simp[htk]
        clear htk HET ht0
        go_upto_region 18 with((go_at_call 82;(with_reducible refine HNW.out.mono ?_);rintro e w9 ⟨rfl,hb9⟩;have HR9:=Lib.hid (HRI.out.below hb9 hn);have HC9:=Lib.hid (condO_below HCI.out hb9);clear hb9))
        obtain⟨c0,c1,c2,c3,c4,_⟩:=HR9.out.cells
        have HZ:=HR9.out.res
        have HZ2:=Lib.hid HZ
        have g0:=Lib.frozen_of_heap HZ 0
        have g1:=Lib.frozen_of_heap HZ 1
        have g2:=Lib.frozen_of_heap HZ 2
        have g3:=Lib.frozen_of_heap HZ 3
        have g4:=Lib.frozen_of_heap HZ 4
        obtain⟨z0,z1,z2,z3,z4⟩:=ruleZ_cells HZ
        have hrs:=heap_lt HZ
        clear HZ
        go_wp2_with fail
        refine rule_ret (rule_put HR9.out HC9.out hn).1 rfl ?_
        exact RuPost.yes HVE.out (rule_put HR9.out HC9.out hn).2.1 (rule_put HR9.out HC9.out hn).2.2 HAS.out rfl HTL.out ⟨HACT.out,⟨hm1,hm2⟩,HTM.out⟩
       ·have HVE:=Lib.hid (HVI.out.trans (if_neg (by rw[HET.out];simp[htk])))
        have htk2:((tk:Int) != 0)=true:=by simpa using htk
        clear htk HET ht0
        go_wp2_with (first
         | (go_at_call 82;(with_reducible refine HNW.out.mono ?_);rintro e w9 ⟨rfl,hb9⟩;have HB9:=Lib.hid hb9;clear hb9)
         | (go_at_call 83;(with_reducible refine(HWR.out _ HB9.out).mono ?_);rintro e w10 ⟨rfl,hb10⟩;have HB10:=Lib.hid (HB9.out.trans (hb10.mono HB9.out.size));clear hb10))
        exact⟨rfl,RuPost.err HVE.out (HRI.out.fr.below HB10.out hn)⟩
end Go.Proofs.YtannhfnpigiggaaGreatDoor
namespace Go.Proofs.YtannhfnpigiggaaGreatDoor
set_option linter.unusedSimpArgs false
set_option linter.unusedVariables false
open Go.Lib (decDigits)
theorem isT_cons{x:Bs}{ts:List Tok}(h:isT x ts=true):∃t r,ts=t::r/\t.text=x/\(t.kind=1\/t.kind=4):=by
 cases ts with
 | nil=>cases h
 | cons t r =>
  simp only[isT,Bool.and_eq_true,Bool.or_eq_true,beq_iff_eq]at h
  exact⟨t,r,rfl,h.2,h.1⟩
theorem oneF_cons{l:List Bs}{ts:List Tok}{a:Bs × List Tok}(h:oneF l ts=.ok a):∃t,ts=t::a.2/\t.text=a.1/\a.1∈l/\(t.kind=1\/t.kind=4):=by
 cases ts with
 | nil=>cases h
 | cons t r =>
  unfold oneF at h
  simp only at h
  split at h
  ·rename_i hq
   injection h with h
   obtain⟨x,hx,hi⟩:=List.any_eq_true.1 hq
   obtain⟨t',r',e,e2,hk⟩:=isT_cons hi
   injection e with e3 e4
   subst e3
   refine⟨t,by rw[<-h],by rw[<-h],by rw[<-h];simp only;rw[e2];exact hx,hk⟩
  ·cases h
theorem escL_length(s:Bs):(escL s).length<=2*s.length:=by
 induction s with
 | nil=>simp[escL]
 | cons c r ih =>
  have e:escL (c::r)=(if c=34\/c=92 then [92,c] else [c])++escL r:=by simp[escL]
  rw[e,List.length_append,List.length_cons]
  split<;>simp<;>omega
theorem quoteL_length(s:Bs):(quoteL s).length<=2*s.length+2:=by
 have:=escL_length s
 simp only[quoteL,List.length_cons,List.length_append,List.length_nil];omega
theorem cmpOp_len{o:Bs}(h:o∈cmpOps):o.length<=2:=by
 have:∀x∈cmpOps,x.length<=2:=by decide
 exact this o h
theorem numFs_len{o:Bs}(h:o∈numFs):o.length<=7:=by
 have:∀x∈numFs,x.length<=7:=by decide
 exact this o h
theorem txtFs_len{o:Bs}(h:o∈txtFs):o.length<=7:=by
 have:∀x∈txtFs,x.length<=7:=by decide
 exact this o h
theorem modes_len{o:Bs}(h:o∈modesL):o.length<=6:=by
 have:∀x∈modesL,x.length<=6:=by decide
 exact this o h
theorem testF_cases{ts:List Tok}{a:Cond × List Tok}(h:testF ts=.ok a) :
  (∃t o n,t.kind=1/\t.text∈numFs/\oneF cmpOps ts.tail=.ok o/\numF 2147483647 o.2=.ok n/\ts=t::ts.tail/\a=(.cmp t.text o.1 n.1,n.2)) ∨
  (∃t m q,t.kind=1/\t.text∉numFs/\t.text∈txtFs/\oneF modesL ts.tail=.ok m/\quoF m.2=.ok q/\ts=t::ts.tail/\a=(.txt t.text m.1 q.1.text,q.2)) ∨
  (∃t f i q,ts=t::ts.tail/\t.kind=1/\t.text∉numFs/\t.text∉txtFs/\oneF [wAuthor,wGroup] ts=.ok f/\oneF [wIs] f.2=.ok i/\quoF i.2=.ok q/\a.2=q.2/\((f.1=wGroup/\(compF q.1.text).2.2=0/\a.1=.grp q.1.text)\/(f.1=wAuthor/\authB q.1.text=true/\a.1=.auth q.1.text))):=by
 cases ts with
 | nil=>cases h
 | cons t r =>
  unfold testF at h
  simp only at h
  split at h
  ·cases h
  ·rename_i hk
   have hk:t.kind=1:=by omega
   split at h
   ·rename_i h1
    obtain⟨o,ho,h⟩:=bindE_ok h
    obtain⟨n,hn,h⟩:=bindE_ok h
    injection h with h
    exact .inl ⟨t,o,n,hk,h1,ho,hn,rfl,h.symm⟩
   ·rename_i h1
    split at h
    ·rename_i h2
     obtain⟨o,ho,h⟩:=bindE_ok h
     obtain⟨n,hn,h⟩:=bindE_ok h
     injection h with h
     exact .inr (.inl ⟨t,o,n,hk,h1,h2,ho,hn,rfl,h.symm⟩)
    ·rename_i h2
     rw[whoF_eq]at h
     obtain⟨f,hf,h⟩:=bindE_ok h
     obtain⟨i,hi,h⟩:=bindE_ok h
     obtain⟨q,hq,h⟩:=bindE_ok h
     refine .inr (.inr ⟨t,f,i,q,rfl,hk,h1,h2,hf,hi,hq,?_⟩)
     obtain⟨_,_,_,hm,_⟩:=oneF_cons hf
     split at h
     ·rename_i hg
      split at h
      ·cases h
      ·rename_i hc
       injection h with h
       rw[<-h]
       exact⟨rfl,.inl ⟨hg,by omega,rfl⟩⟩
     ·rename_i hg
      split at h
      ·rename_i hc
       injection h with h
       rw[<-h]
       refine⟨rfl,.inr ⟨?_,hc,rfl⟩⟩
       have hm:f.1∈([wAuthor,wGroup]:List Bs):=hm
       simp only[List.mem_cons,List.not_mem_nil,or_false]at hm
       rcases hm with hm|hm
       ·exact hm
       ·exact absurd hm hg
      ·cases h
theorem decI_len{m:Int}(h : -10000<=m/\m<=10000):(decI m).length<=6:=by
 unfold decI
 split
 ·have:=dec_len_lt 4 m.natAbs (by omega);simp only[List.length_cons];omega
 ·have:=dec_len_lt 4 m.toNat (by omega);omega
theorem acts_len{o:Bs}(h:o∈actsL):o.length<=5:=by
 have:∀x∈actsL,x.length<=5:=by decide
 exact this o h
def tilL(u:Option Nat):Bs:=match u with
 | none=>[]
 | some n=>[32,117,110,116,105,108,32]++decDigits n
def condL(c:Option Cond):Bs:=match c with
 | none=>[]
 | some c=>[32,105,102,32]++printF c
theorem printR_eq(r:RuleS):printR r=r.act++((if r.act=yPlus\/r.act=yMinus\/r.act=yEq then decI r.amt else [])++(tilL r.til++condL r.cond)):=rfl
theorem lineF_ok{L:Bs}{n:Nat}{r:RuleS}(h:lineF L n=.ok r):n<200/\∃ts,toksF L=.ok ts/\ruleF ts=.ok r:=by
 unfold lineF at h
 obtain⟨ts,h1,h⟩:=bindE_ok h
 split at h
 ·cases h
 ·exact⟨by omega,ts,h1,h⟩
theorem rulesG_few:∀(ls:List Bs) (i n:Nat) (l:List RuleS),n<=200->rulesG ls i n=.ok l->n+l.length<=200
 | [],i,n,l,hn,h=>by unfold rulesG at h;injection h with h;subst h;simpa using hn
 | x::r,i,n,l,hn,h=>by
  unfold rulesG at h
  split at h
  ·exact rulesG_few r (i+1) n l hn h
  ·split at h
   ·cases h
   ·rename_i a ha
    split at h
    ·cases h
    ·rename_i l2 hl2
     injection h with h;subst h
     have h1:=rulesG_few r (i+1) (n+1) l2 (by have:=(lineF_ok ha).1;omega) hl2
     simp only[List.length_cons];omega
end Go.Proofs.YtannhfnpigiggaaGreatDoor
namespace Go.Proofs.YtannhfnpigiggaaGreatDoor
set_option linter.unusedSimpArgs false
set_option linter.unusedVariables false
theorem bindE_err{α β:Type}{x:Except Fl α}{k:α->Except Fl β}{f:Fl}(h:bindE x k=.error f):x=.error f\/∃a,x=.ok a/\k a=.error f:=by
 cases x with
 | error g=>exact .inl (by injection h with h;rw[h])
 | ok a=>exact .inr ⟨a,rfl,h⟩
def Nz{α:Type}(p:Pr α):Prop := ∀ts f,p ts=.error f->f.2≠0
theorem nz_one(l:List Bs):Nz (oneF l):=by
 intro ts f h
 cases ts with
 | nil=>injection h with h;subst h;simp
 | cons t r =>
  unfold oneF at h
  simp only at h
  split at h
  ·cases h
  ·injection h with h;subst h;simp
theorem nz_num(m:Nat):Nz (numF m):=by
 intro ts f h
 cases ts with
 | nil=>injection h with h;subst h;simp
 | cons t r =>
  unfold numF at h
  simp only at h
  split at h
  ·injection h with h;subst h;simp
  ·split at h
   ·injection h with h;subst h;simp
   ·cases h
theorem nz_quo:Nz quoF:=by
 intro ts f h
 cases ts with
 | nil=>injection h with h;subst h;simp
 | cons t r =>
  unfold quoF at h
  simp only at h
  split at h
  ·injection h with h;subst h;simp
  ·cases h
theorem nz_who:Nz whoF:=by
 intro ts f h
 rw[whoF_eq]at h
 rcases bindE_err h with h|⟨a,_,h⟩
 ·exact nz_one _ _ _ h
 rcases bindE_err h with h|⟨b,_,h⟩
 ·exact nz_one _ _ _ h
 rcases bindE_err h with h|⟨c,_,h⟩
 ·exact nz_quo _ _ h
 split at h
 ·split at h
  ·injection h with h;subst h;simp
  ·cases h
 ·split at h
  ·cases h
  ·injection h with h;subst h;simp
theorem nz_test:Nz testF:=by
 intro ts f h
 cases ts with
 | nil=>injection h with h;subst h;simp
 | cons t r =>
  unfold testF at h
  simp only at h
  split at h
  ·injection h with h;subst h;simp
  ·split at h
   ·rcases bindE_err h with h|⟨a,_,h⟩
    ·exact nz_one _ _ _ h
    rcases bindE_err h with h|⟨b,_,h⟩
    ·exact nz_num _ _ _ h
    cases h
   ·split at h
    ·rcases bindE_err h with h|⟨a,_,h⟩
     ·exact nz_one _ _ _ h
     rcases bindE_err h with h|⟨b,_,h⟩
     ·exact nz_quo _ _ h
     cases h
    ·exact nz_who _ _ h
theorem nz_more(word:Bs){p:Pr Cond}(hp:Nz p):∀g,Nz (moreF word p g)
 | 0,ts,f,h=>by unfold moreF at h;cases h
 | g+1,ts,f,h=>by
  unfold moreF at h
  split at h
  ·rcases bindE_err h with h|⟨a,_,h⟩
   ·exact hp _ _ h
   rcases bindE_err h with h|⟨b,_,h⟩
   ·exact nz_more word hp g _ _ h
   cases h
  ·cases h
theorem nz_list(word:Bs)(mk:List Cond->Cond){p:Pr Cond}(hp:Nz p):Nz (listC word mk p):=by
 intro ts f h
 unfold listC at h
 rcases bindE_err h with h|⟨a,_,h⟩
 ·exact hp _ _ h
 rcases bindE_err h with h|⟨b,_,h⟩
 ·exact nz_more word hp _ _ _ h
 cases h
theorem nz_single:∀n,Nz (singleF n)
 | n,ts,f,h=>by
  unfold singleF at h
  split at h
  ·exact nz_test _ _ h
  ·cases n with
   | zero=>injection h with h;subst h;simp
   | succ n =>
    simp only at h
    split at h
    ·rcases bindE_err h with h|⟨a,_,h⟩
     ·exact nz_single n _ _ h
     cases h
    ·rcases bindE_err h with h|⟨a,_,h⟩
     ·exact nz_list _ _ (nz_list _ _ (nz_single n)) _ _ h
     rcases bindE_err h with h|⟨b,_,h⟩
     ·exact nz_one _ _ _ h
     cases h
theorem nz_rule:∀ts f,ruleF ts=.error f->f.2≠0:=by
 intro ts f h
 unfold ruleF at h
 rcases bindE_err h with h|⟨a,_,h⟩
 ·exact nz_one _ _ _ h
 rcases bindE_err h with h|⟨b,_,h⟩
 ·unfold amtF at h
  split at h
  ·rcases bindE_err h with h|⟨c,_,h⟩
   ·exact nz_num _ _ _ h
   cases h
  ·split at h
   ·split at h
    ·rcases bindE_err h with h|⟨c,_,h⟩
     ·exact nz_num _ _ _ h
     cases h
    ·rcases bindE_err h with h|⟨c,_,h⟩
     ·exact nz_num _ _ _ h
     cases h
   ·cases h
 rcases bindE_err h with h|⟨c,_,h⟩
 ·unfold tilF at h
  split at h
  ·rcases bindE_err h with h|⟨d,_,h⟩
   ·exact nz_num _ _ _ h
   cases h
  ·cases h
 rcases bindE_err h with h|⟨d,_,h⟩
 ·unfold ifF at h
  split at h
  ·rcases bindE_err h with h|⟨e,_,h⟩
   ·exact nz_list _ _ (nz_list _ _ (nz_single 32)) _ _ h
   cases h
  ·cases h
 split at h
 ·cases h
 ·injection h with h;subst h;simp
theorem nz_tok{L:Bs}{col:Nat}{f:Fl}(h:tokT L col=.error f):f.2≠0:=by
 unfold tokT at h
 split at h
 ·injection h with h;subst h;simp
 ·split at h
  ·cases h
  ·split at h
   ·split at h
    ·rename_i hn
     injection h with h;subst h;exact hn
    ·cases h
   ·split at h
    ·unfold strT at h
     split at h
     ·injection h with h;subst h;simp
     ·simp only at h
      split at h
      ·injection h with h;subst h;simp
      ·split at h
       ·injection h with h;subst h;simp
       ·split at h
        ·injection h with h;subst h;simp
        ·cases h
    ·unfold symT at h
     split at h
     ·cases h
     ·injection h with h;subst h;simp
theorem nz_toks:∀(g:Nat) (L:Bs) (i:Nat) (f:Fl),toksG g L i=.error f->f.2≠0
 | 0,L,i,f,h=>by unfold toksG at h;cases h
 | g+1, [],i,f,h=>by unfold toksG at h;cases h
 | g+1,c::r,i,f,h=>by
  unfold toksG at h
  simp only at h
  split at h
  ·exact nz_toks g r (i+1) f h
  ·split at h
   ·rename_i ht
    injection h with h;subst h;exact nz_tok ht
   ·split at h
    ·rename_i hh
     injection h with h;subst h;exact nz_toks g _ _ _ hh
    ·cases h
theorem nz_line{L:Bs}{n:Nat}{f:Fl}(h:lineF L n=.error f):f.2≠0:=by
 unfold lineF at h
 rcases bindE_err h with h|⟨ts,_,h⟩
 ·exact nz_toks _ _ _ _ h
 ·split at h
  ·injection h with h;subst h;simp
  ·exact nz_rule _ _ h
end Go.Proofs.YtannhfnpigiggaaGreatDoor
