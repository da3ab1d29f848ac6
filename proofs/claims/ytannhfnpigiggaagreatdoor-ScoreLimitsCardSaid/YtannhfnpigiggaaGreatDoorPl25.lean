import Derived.Test.YtannhfnpigiggaaGreatDoorPl24
import Derived.Deep.RegionHeld3
import Derived.Deep.RegionWith
import Derived.RegionDies
namespace Go.Proofs.YtannhfnpigiggaaGreatDoor
set_option linter.unusedSimpArgs false
set_option linter.unusedVariables false
open Go.RowKit
theorem num_key(p:Bs):keyIn p numPs=if p∈numFs then some (fnC (numFn p)) else none:=by
 by_cases h:p∈numFs
 ·rw[if_pos h]
  simp only[numFs,List.mem_cons,List.not_mem_nil,or_false]at h
  rcases h with rfl|rfl|rfl|rfl|rfl<;>kernel_rfl
 ·rw[if_neg h]
  simp only[numFs,List.mem_cons,List.not_mem_nil,or_false,not_or]at h
  simp[keyIn,numPs,numFs,h]
theorem txt_key(p:Bs):keyIn p txtPs=if p∈txtFs then some (fnC (txtFn p)) else none:=by
 by_cases h:p∈txtFs
 ·rw[if_pos h]
  simp only[txtFs,List.mem_cons,List.not_mem_nil,or_false]at h
  rcases h with rfl|rfl|rfl<;>kernel_rfl
 ·rw[if_neg h]
  simp only[txtFs,List.mem_cons,List.not_mem_nil,or_false,not_or]at h
  simp[keyIn,txtPs,txtFs,h]
theorem row_block{w:World}{B:Nat}{cs:Array Value}{t:TypeId}{fr:Nat × Nat}(h:w.heap[B]?=some (.cells cs t fr)):Row w (some ⟨B,0,none⟩) cs.toList :=
 Row.mk _ _ _ _ (heap_lt h) fun j v hv=>by rw[Nat.zero_add,Lib.cell_of_heap h];simpa using hv
theorem zero_fnN(w:World):(zeroValue 160).run Tryz.prog w=.ok .nilFunc w:=by kernel_rfl
theorem zero_fnT(w:World):(zeroValue 163).run Tryz.prog w=.ok .nilFunc w:=by kernel_rfl
theorem look_num{w:World}{m:Nat}(h:AMap w m numPs)(s:ByteArray):(Instr.lookup 234 (.map (some m)) (.string s) true).run Tryz.prog w=.ok (.tuple #[if toL s∈numFs then fnC (numFn (toL s)) else .nilFunc,.bool (decide (toL s∈numFs))]) w:=by
 rw[h.look Tryz.underlying9 map_num zero_fnN s,num_key]
 by_cases hp:toL s∈numFs<;>simp[hp]
theorem look_txt{w:World}{m:Nat}(h:AMap w m txtPs)(s:ByteArray):(Instr.lookup 237 (.map (some m)) (.string s) true).run Tryz.prog w=.ok (.tuple #[if toL s∈txtFs then fnC (txtFn (toL s)) else .nilFunc,.bool (decide (toL s∈txtFs))]) w:=by
 rw[h.look Tryz.underlying9 map_txt zero_fnT s,txt_key]
 by_cases hp:toL s∈txtFs<;>simp[hp]
set_option maxHeartbeats 1000000 in
set_option maxRecDepth 100000 in
theorem sc_textFields(w:World):Calls Tryz.prog 154 #[] w fun e w'=>(∃b,e=.returned (.map (some b))/\AMap w' b txtPs)/\Below w.heap.size w w':=by
 have hK:=Tryz.underlying9
 have hmm:=fun wx => @run_makeMap Tryz.prog wx
 have m0:=amap_new w
 obtain⟨w1,h1,m1,g1,z1⟩:=m0.put hK map_txt ⟨#[110,97,109,101]⟩ (fnC 172) (by decide)
 obtain⟨w2,h2,m2,g2,z2⟩:=m1.put hK map_txt ⟨#[115,117,98,106,101,99,116]⟩ (fnC 173) (by decide)
 obtain⟨w3,h3,m3,g3,z3⟩:=m2.put hK map_txt ⟨#[98,111,100,121]⟩ (fnC 174) (by decide)
 have HB:=Lib.hid (show Below w.heap.size w w3 from by
  have e:∀k,some w.heap.size=some k->w.heap.size<=k:=fun k h=>by injection h with h;omega
  have hz:w.heap.size<=(w.alloc (.map #[] 0)).heap.size:=by simp
  exact(((alloc_bel w _).grown g1 hz e).grown g2 (by omega) e).grown g3 (by omega) e)
 have HM:=Lib.hid m3
 clear m0 m1 m2 m3 g1 g2 g3 z1 z2 z3
 go_enter Tryz.func154,Tryz.ntmps154
 go_wp2_with fail
 go_ret
 exact⟨⟨_,rfl,HM.out⟩,HB.out⟩
theorem fr_cell{n:Nat}{w w':World}{b p o:Nat}{v:Value}(hf:Fr n (fun i=>i=b) w w')(hc:w.cell? ⟨p,o,none⟩=some v)(hp:p<w.heap.size)(hne:p≠b):w'.cell? ⟨p,o,none⟩=some v:=by
 rw[World.cell?_of_block (a:=⟨p,o,none⟩) (hf.oth p hp hne)];exact hc
theorem numF_le{most:Nat}{ts r:List Tok}{x:Nat}(h:numF most ts=.ok (x,r)):x<=most:=by
 cases ts with
 | nil=>cases h
 | cons t r' =>
  unfold numF at h
  simp only at h
  split at h
  ·cases h
  ·split at h
   ·cases h
   ·injection h with h;injection h with h1 h2
    omega
theorem oneF_mem{l:List Bs}{ts r:List Tok}{x:Bs}(h:oneF l ts=.ok (x,r)):x∈l:=by
 cases ts with
 | nil=>cases h
 | cons t r' =>
  unfold oneF at h
  simp only at h
  split at h
  ·rename_i ha
   injection h with h;injection h with h1 h2
   obtain⟨y,hy,ht⟩:=List.any_eq_true.1 ha
   simp only[isT,Bool.and_eq_true,beq_iff_eq]at ht
   rw[<-h1,ht.2];exact hy
  ·cases h
set_option maxHeartbeats 8000000 in
set_option maxRecDepth 100000 in
theorem sc_test_num{n:Nat}{w:World}{b:Nat}{A:Option Addr}{cap k:Nat}{all:List Tok}(h:PkS w b A cap all k)(hn:n<=w.heap.size)(hnb:n<=b){tt:Bs}{tn tc:Nat}(ht:all[k]'h.lt=⟨1,tt,tn,tc⟩)(hm:tt∈numFs) :
  Calls Tryz.prog 139 #[.pointer (some ⟨b,0,none⟩)] w (PrPost (condP w.heap.size) n b A cap all (testF (all.drop k)) w):=by
 have HP:=Lib.hid h
 have hlt:=h.lt
 have hfew:=h.ok.few
 have hk1:k+1<all.length:=(tok_num h.ok hlt ht).2.2 (by omega)
 obtain⟨T,hT⟩:∃T,ofL tt=T:=⟨_,rfl⟩
 have HN:=Lib.hid (now_at h ht hT)
 have HTL:=Lib.hid (show toL T=tt from by rw[<-hT,toL_ofL])
 have HM:=Lib.hid hm
 have HLK:=Lib.hid (fun (wx:World) m (hx:AMap wx m numPs)=>show(Instr.lookup 234 (.map (some m)) (.string T) true).run Tryz.prog wx=.ok (.tuple #[fnC (numFn tt),.bool true]) wx from by
  rw[look_num hx T,HTL.out,if_pos HM.out,decide_eq_true HM.out])
 have HV:=Lib.hid (show testF (all.drop k)=bindE (oneF cmpOps (all.drop (k+1))) fun o=>bindE (numF 2147483647 o.2) fun n=>.ok (.cmp tt o.1 n.1,n.2) from by
  rw[drop_tok hlt,ht];unfold testF;simp only;rw[if_neg (by simp),if_pos HM.out])
 obtain⟨X,hX⟩:∃X,testF (all.drop k)=X:=⟨_,rfl⟩
 rw[hX]at HV⊢
 have hbw:=h.cells.2.2.2
 clear h ht hm hX
 go_enter Tryz.func139,Tryz.ntmps139
 go_upto_region 4 with((go_at_call 82;(with_reducible refine HN.out.mono ?_);rintro e w1 ⟨rfl,hb1⟩;have HB1:=Lib.hid hb1;clear hb1))
 have HB0:=Lib.hid (HB1.out.alloc HB1.out.size (.cells #[.int .i64 1,.string T,.int .i64 (tn:Int),.int .i64 (tc:Int)] 118))
 have HX0:=Lib.hid (heap_alloc_new w1 (.cells #[.int .i64 1,.string T,.int .i64 (tn:Int),.int .i64 (tc:Int)] 118))
 have hpx:w.heap.size<=w1.heap.size:=HB1.out.size
 obtain⟨px,hpe⟩:∃px,w1.heap.size=px:=⟨_,rfl⟩
 rw[hpe]at HX0 hpx
 have hz0:px<(w1.alloc (.cells #[.int .i64 1,.string T,.int .i64 (tn:Int),.int .i64 (tc:Int)] 118)).heap.size:=by simp;omega
 simp only[hpe]
 clear hpe HB1 HN
 generalize w1.alloc (.cells #[.int .i64 1,.string T,.int .i64 (tn:Int),.int .i64 (tc:Int)] 118)=W0 at *
 obtain⟨_,x1,_,_⟩:=tokBox_cells HX0.out
 have HK:=Lib.hid (show W0.drew.cell? ⟨px,1,none⟩=some (.string T)/\Below W0.heap.size W0 W0.drew from⟨x1,(Below.refl _ _).drew⟩)
 go_region_held3 (fun w'=>w'.cell? ⟨px,1,none⟩=some (.string T)/\Below W0.heap.size W0 w')
  (first|exact HK.out|exact HS3.out)
  ((go_at_call 153;(with_reducible refine(sc_numberFields _).mono ?_);rintro e w3 ⟨⟨m,rfl,hm3⟩,hb3⟩;have hl3:=HLK.out w3 m hm3;have hb03:=(by assumption:_/\Below W0.heap.size W0 _).2.trans (hb3.mono (by assumption:_/\Below W0.heap.size W0 _).2.size);have HS3:=Lib.hid (show w3.cell? ⟨px,1,none⟩=some (.string T)/\Below W0.heap.size W0 w3 from⟨(hb03.cell (p:=⟨px,1,none⟩) hz0).trans x1,hb03⟩);clear hm3 hb3 hb03))
 rename_i hHeld
 have HB3:=Lib.hid hHeld.2
 have HX3:=Lib.hid (show w3.heap[px]?=some (.cells #[.int .i64 1,.string T,.int .i64 (tn:Int),.int .i64 (tc:Int)] 118 (0,0)) from(hHeld.2.block px hz0).trans HX0.out)
 have HP3:=Lib.hid (HP.out.below (HB0.out.trans (hHeld.2.mono HB0.out.size)))
 have hz3:W0.heap.size<=w3.heap.size:=hHeld.2.size
 have HBW:=Lib.hid (HB0.out.trans (hHeld.2.mono HB0.out.size))
 clear hHeld hl3 HS3 HK HLK x1
 obtain⟨k0,k1,f1,_⟩:=HP3.out.cells
 have y1:IntKind.i64.wrap ((k:Int)+1)=((k:Int)+1):=IntWalk.i64_in _ (by omega)
 go_upto_region 7 with fail
 have HP4:=Lib.hid (show PkS (w3.setCell ⟨b,1,none⟩ (.int .i64 ((k:Int)+1))) b A cap all (k+1) from HP3.out.set hk1)
 have HF4:=Lib.hid ((Fr.of (S:=fun k=>k=b) HBW.out hn).set (i:=1) (.int .i64 ((k:Int)+1)) hnb (.inl rfl))
 have HX4:=Lib.hid (show(w3.setCell ⟨b,1,none⟩ (.int .i64 ((k:Int)+1))).heap[px]?=_ from(heap_set_ne _ (show px≠b from by omega)).trans HX3.out)
 have hz4:w3.heap.size<=(w3.setCell ⟨b,1,none⟩ (.int .i64 ((k:Int)+1))).heap.size:=by simp
 clear k0 k1 f1 HP3 HX3 HBW HB3
 generalize w3.setCell ⟨b,1,none⟩ (.int .i64 ((k:Int)+1))=W4 at *
 have HB5:=Lib.hid (alloc_bel W4 (.cells #[.string ⟨#[61]⟩,.string ⟨#[33,61]⟩,.string ⟨#[60]⟩,.string ⟨#[60,61]⟩,.string ⟨#[62]⟩,.string ⟨#[62,61]⟩] 9))
 have HR5:=Lib.hid (show Row (W4.alloc (.cells #[.string ⟨#[61]⟩,.string ⟨#[33,61]⟩,.string ⟨#[60]⟩,.string ⟨#[60,61]⟩,.string ⟨#[62]⟩,.string ⟨#[62,61]⟩] 9)) (some ⟨W4.heap.size,0,none⟩) (strsL cmpOps) from row_block (heap_alloc_new W4 _))
 have HO:=Lib.hid (sc_oneOf (HP4.out.below HB5.out) (n:=n) (by have:=HB5.out.size;omega) hnb _ cmpOps 6 rfl 6 HR5.out (by decide) (by decide))
 have hz5:=HB5.out.size
 rcases hO:oneF cmpOps (all.drop (k+1)) with f|⟨op,ts⟩
 ·rw[hO]at HO HV
  have HO2:=Lib.hid (HO.out.mono (R':=fun e w'=>e=failE f/\Fr n (fun i=>i=b) (W4.alloc (.cells #[.string ⟨#[61]⟩,.string ⟨#[33,61]⟩,.string ⟨#[60]⟩,.string ⟨#[60,61]⟩,.string ⟨#[62]⟩,.string ⟨#[62,61]⟩] 9)) w') (fun e w' h=>⟨h.res,h.fr⟩))
  clear hO
  go_wp2_with ((go_at_call 78;(with_reducible refine HO2.out.mono ?_);rintro e w6 ⟨rfl,hf6⟩;have HF6:=Lib.hid hf6;clear hf6))
  exact⟨rfl,PrPost.err HV.out ((HF4.out.below HB5.out hn).trans HF6.out (fun i hi=>.inl hi)) rfl⟩
 ·rw[hO]at HO HV
  have HO2:=Lib.hid (HO.out.mono (R':=fun e w'=>∃k2,e=.returned (.string (ofL op))/\PkS w' b A cap all k2/\ts=all.drop k2/\Fr n (fun i=>i=b) (W4.alloc (.cells #[.string ⟨#[61]⟩,.string ⟨#[33,61]⟩,.string ⟨#[60]⟩,.string ⟨#[60,61]⟩,.string ⟨#[62]⟩,.string ⟨#[62,61]⟩] 9)) w') (fun e w' h=>by
   obtain⟨v,k',rfl,hv,hp,he⟩:=h.res
   exact⟨k',by rw[hv],hp,he,h.fr⟩))
  have HOP:=Lib.hid (show op∈cmpOps from oneF_mem hO)
  clear hO
  go_upto_region 8 with((go_at_call 78;(with_reducible refine HO2.out.mono ?_);rintro e w6 ⟨k2,rfl,hp6,rfl,hf6⟩;have HP6:=Lib.hid hp6;have HF6:=Lib.hid hf6;clear hf6 hp6))
  have HF6w:=Lib.hid ((HF4.out.below HB5.out hn).trans HF6.out (fun i hi=>.inl hi))
  have HX6:=Lib.hid (show w6.heap[px]?=some (.cells #[.int .i64 1,.string T,.int .i64 (tn:Int),.int .i64 (tc:Int)] 118 (0,0)) from(HF6.out.oth px (by omega) (by omega)).trans ((HB5.out.block px (by omega)).trans HX4.out))
  have hz6:=HF6.out.size
  have hpz:px<w6.heap.size:=by omega
  obtain⟨OS,hOS⟩:∃OS,ofL op=OS:=⟨_,rfl⟩
  have HOS:=Lib.hid hOS
  rw[hOS]
  clear hOS HO HO2 HR5 HP4 HX4 HF4 HB5 HF6
  obtain⟨_,x1,_,_⟩:=tokBox_cells HX6.out
  have HNU:=Lib.hid (sc_number (HP6.out.below (Below.refl w6.heap.size w6).drew) (n:=n) (show n<=w6.drew.heap.size from by show n<=w6.heap.size;omega) hnb 2147483647 2147483647 rfl (by omega))
  rcases hN:numF 2147483647 (all.drop k2) with f|⟨v,ts⟩
  ·rw[hN]at HNU
   have HV2:=Lib.hid (show X=.error f from by rw[HV.out];unfold bindE;simp only[hN])
   have HN2:=Lib.hid (HNU.out.mono (R':=fun e w'=>e=failE f/\Fr n (fun i=>i=b) w6.drew w') (fun e w' h=>⟨h.res,h.fr⟩))
   clear hN
   go_region_dies
   all_goals
    go_at_call 79
    (with_reducible refine HN2.out.mono ?_)
    rintro e w7 ⟨rfl,hf7⟩
    exact⟨rfl,PrPost.err HV2.out (HF6w.out.drew.trans hf7 (fun i hi=>.inl hi)) rfl⟩
  ·rw[hN]at HNU
   have HVL:=Lib.hid (numF_le hN)
   have HN2:=Lib.hid (HNU.out.mono (R':=fun e w'=>∃k3,e=.returned (.int .i64 (v:Int))/\PkS w' b A cap all k3/\ts=all.drop k3/\Fr n (fun i=>i=b) w6.drew w') (fun e w' h=>by
    obtain⟨v',k',rfl,hv,hp,he⟩:=h.res
    exact⟨k',by rw[hv],hp,he,h.fr⟩))
   have HV2:=Lib.hid (show X=.ok (.cmp tt op v,ts) from by rw[HV.out];unfold bindE;simp only[hN])
   clear hN
   go_region_held3 (fun w'=>w'.cell? ⟨px,1,none⟩=some (.string T))
    (first|exact x1|exact HX7.out)
    ((go_at_call 79;(with_reducible refine HN2.out.mono ?_);rintro e w7 ⟨k3,rfl,hp7,rfl,hf7⟩;have HP7:=Lib.hid hp7;have HF7:=Lib.hid (HF6w.out.drew.trans hf7 (fun i hi=>.inl hi));have HX7:=Lib.hid (show w7.cell? ⟨px,1,none⟩=some (.string T) from fr_cell hf7 x1 hpz (by omega));clear hp7 hf7))
   go_wp2_with fail
   go_ret
   refine PrPost.yes HV2.out HF7.out ?_ HP7.out
   have hc:condP w.heap.size (.cmp tt op v) (.iface 162 (.agg #[.string (ofL tt),.func (.func (numFn tt)) #[] #[],.string (ofL op),.int .i64 (v:Int)])) w7:=CondIn.cmp HM.out HOP.out HVL.out
   rw[hT,HOS.out]at hc
   exact hc
theorem quoF_len{all:List Tok}{k:Nat}{q:Tok}{ts:List Tok}(h:TksOk all)(hk:k<all.length)(hq:quoF (all.drop k)=.ok (q,ts)):q.text.length<=1000000:=by
 rw[quoF_at hk]at hq
 split at hq
 ·cases hq
 ·injection hq with hq;injection hq with h1 h2
  rw[<-h1];exact(h.col k hk).2.2.2
attribute [local go_sem ↓] fld_tok0 fld_tok1 fld_tok3
set_option maxHeartbeats 8000000 in
set_option maxRecDepth 100000 in
theorem sc_test_txt{n:Nat}{w:World}{b:Nat}{A:Option Addr}{cap k:Nat}{all:List Tok}(h:PkS w b A cap all k)(hn:n<=w.heap.size)(hnb:n<=b){tt:Bs}{tn tc:Nat}(ht:all[k]'h.lt=⟨1,tt,tn,tc⟩)(hm0:tt∉numFs)(hm:tt∈txtFs) :
  Calls Tryz.prog 139 #[.pointer (some ⟨b,0,none⟩)] w (PrPost (condP w.heap.size) n b A cap all (testF (all.drop k)) w):=by
 have HP:=Lib.hid h
 have hlt:=h.lt
 have hfew:=h.ok.few
 have hk1:k+1<all.length:=(tok_num h.ok hlt ht).2.2 (by omega)
 obtain⟨T,hT⟩:∃T,ofL tt=T:=⟨_,rfl⟩
 have HN:=Lib.hid (now_at h ht hT)
 have HTL:=Lib.hid (show toL T=tt from by rw[<-hT,toL_ofL])
 have HM:=Lib.hid hm
 have HM0:=Lib.hid hm0
 have HLN:=Lib.hid (fun (wx:World) m (hx:AMap wx m numPs)=>show(Instr.lookup 234 (.map (some m)) (.string T) true).run Tryz.prog wx=.ok (.tuple #[.nilFunc,.bool false]) wx from by
  rw[look_num hx T,HTL.out,if_neg HM0.out,decide_eq_false HM0.out])
 have HLT:=Lib.hid (fun (wx:World) m (hx:AMap wx m txtPs)=>show(Instr.lookup 237 (.map (some m)) (.string T) true).run Tryz.prog wx=.ok (.tuple #[fnC (txtFn tt),.bool true]) wx from by
  rw[look_txt hx T,HTL.out,if_pos HM.out,decide_eq_true HM.out])
 have HV:=Lib.hid (show testF (all.drop k)=bindE (oneF modesL (all.drop (k+1))) fun m=>bindE (quoF m.2) fun q=>.ok (.txt tt m.1 q.1.text,q.2) from by
  rw[drop_tok hlt,ht];unfold testF;simp only;rw[if_neg (by simp),if_neg HM0.out,if_pos HM.out])
 obtain⟨X,hX⟩:∃X,testF (all.drop k)=X:=⟨_,rfl⟩
 rw[hX]at HV⊢
 have hbw:=h.cells.2.2.2
 clear h ht hm hm0 hX
 go_enter Tryz.func139,Tryz.ntmps139
 go_upto_region 4 with((go_at_call 82;(with_reducible refine HN.out.mono ?_);rintro e w1 ⟨rfl,hb1⟩;have HB1:=Lib.hid hb1;clear hb1))
 have HB0:=Lib.hid (HB1.out.alloc HB1.out.size (.cells #[.int .i64 1,.string T,.int .i64 (tn:Int),.int .i64 (tc:Int)] 118))
 have HX0:=Lib.hid (heap_alloc_new w1 (.cells #[.int .i64 1,.string T,.int .i64 (tn:Int),.int .i64 (tc:Int)] 118))
 have hpx:w.heap.size<=w1.heap.size:=HB1.out.size
 obtain⟨px,hpe⟩:∃px,w1.heap.size=px:=⟨_,rfl⟩
 rw[hpe]at HX0 hpx
 have hz0:px<(w1.alloc (.cells #[.int .i64 1,.string T,.int .i64 (tn:Int),.int .i64 (tc:Int)] 118)).heap.size:=by simp;omega
 simp only[hpe]
 clear hpe HB1 HN
 generalize w1.alloc (.cells #[.int .i64 1,.string T,.int .i64 (tn:Int),.int .i64 (tc:Int)] 118)=W0 at *
 obtain⟨_,x1,_,_⟩:=tokBox_cells HX0.out
 have HK:=Lib.hid (show W0.drew.cell? ⟨px,1,none⟩=some (.string T)/\Below W0.heap.size W0 W0.drew from⟨x1,(Below.refl _ _).drew⟩)
 go_region_held3 (fun w'=>w'.cell? ⟨px,1,none⟩=some (.string T)/\Below W0.heap.size W0 w')
  (first|exact HK.out|exact HS3.out)
  ((go_at_call 153;(with_reducible refine(sc_numberFields _).mono ?_);rintro e W1 ⟨⟨m,rfl,hm3⟩,hb3⟩;have hl3:=HLN.out W1 m hm3;have hb03:=(by assumption:_/\Below W0.heap.size W0 _).2.trans (hb3.mono (by assumption:_/\Below W0.heap.size W0 _).2.size);have HS3:=Lib.hid (show W1.cell? ⟨px,1,none⟩=some (.string T)/\Below W0.heap.size W0 W1 from⟨(hb03.cell (p:=⟨px,1,none⟩) hz0).trans x1,hb03⟩);clear hm3 hb3 hb03))
 rename_i hHeld
 have HX1:=Lib.hid (show W1.heap[px]?=some (.cells #[.int .i64 1,.string T,.int .i64 (tn:Int),.int .i64 (tc:Int)] 118 (0,0)) from(hHeld.2.block px hz0).trans HX0.out)
 have hz1:px<W1.heap.size:=Nat.lt_of_lt_of_le hz0 hHeld.2.size
 have HB1:=Lib.hid (HB0.out.trans (hHeld.2.mono HB0.out.size))
 clear hHeld hl3 HS3 HK x1 HX0 HB0 hz0
 go_upto_region 9 with fail
 obtain⟨_,x1,_,_⟩:=tokBox_cells HX1.out
 have HK:=Lib.hid (show W1.drew.cell? ⟨px,1,none⟩=some (.string T)/\Below W1.heap.size W1 W1.drew from⟨x1,(Below.refl _ _).drew⟩)
 go_region_held3 (fun w'=>w'.cell? ⟨px,1,none⟩=some (.string T)/\Below W1.heap.size W1 w')
  (first|exact HK.out|exact HS3.out)
  ((go_at_call 154;(with_reducible refine(sc_textFields _).mono ?_);rintro e W2 ⟨⟨m,rfl,hm3⟩,hb3⟩;have hl3:=HLT.out W2 m hm3;have hb03:=(by assumption:_/\Below W1.heap.size W1 _).2.trans (hb3.mono (by assumption:_/\Below W1.heap.size W1 _).2.size);have HS3:=Lib.hid (show W2.cell? ⟨px,1,none⟩=some (.string T)/\Below W1.heap.size W1 W2 from⟨(hb03.cell (p:=⟨px,1,none⟩) hz1).trans x1,hb03⟩);clear hm3 hb3 hb03))
 rename_i hHeld
 have HX2:=Lib.hid (show W2.heap[px]?=some (.cells #[.int .i64 1,.string T,.int .i64 (tn:Int),.int .i64 (tc:Int)] 118 (0,0)) from(hHeld.2.block px hz1).trans HX1.out)
 have hz2:px<W2.heap.size:=Nat.lt_of_lt_of_le hz1 hHeld.2.size
 have HB2:=Lib.hid (HB1.out.trans (hHeld.2.mono HB1.out.size))
 clear hHeld hl3 HS3 HK x1 HX1 HB1 hz1
 have HP3:=Lib.hid (HP.out.below HB2.out)
 obtain⟨k0,k1,f1,_⟩:=HP3.out.cells
 have y1:IntKind.i64.wrap ((k:Int)+1)=((k:Int)+1):=IntWalk.i64_in _ (by omega)
 go_upto_region 12 with fail
 have HP4:=Lib.hid (show PkS (W2.setCell ⟨b,1,none⟩ (.int .i64 ((k:Int)+1))) b A cap all (k+1) from HP3.out.set hk1)
 have HF4:=Lib.hid ((Fr.of (S:=fun k=>k=b) HB2.out hn).set (i:=1) (.int .i64 ((k:Int)+1)) hnb (.inl rfl))
 have HX4:=Lib.hid (show(W2.setCell ⟨b,1,none⟩ (.int .i64 ((k:Int)+1))).heap[px]?=_ from(heap_set_ne _ (show px≠b from by omega)).trans HX2.out)
 have hz4:px<(W2.setCell ⟨b,1,none⟩ (.int .i64 ((k:Int)+1))).heap.size:=by rw[World.size_setCell];exact hz2
 clear k0 k1 f1 HP3 HX2 HB2
 generalize W2.setCell ⟨b,1,none⟩ (.int .i64 ((k:Int)+1))=W4 at *
 have HB5:=Lib.hid (alloc_bel W4 (.cells #[.string ⟨#[105,115]⟩,.string ⟨#[104,97,115]⟩,.string ⟨#[98,101,103,105,110,115]⟩] 9))
 have HR5:=Lib.hid (show Row (W4.alloc (.cells #[.string ⟨#[105,115]⟩,.string ⟨#[104,97,115]⟩,.string ⟨#[98,101,103,105,110,115]⟩] 9)) (some ⟨W4.heap.size,0,none⟩) (strsL modesL) from row_block (heap_alloc_new W4 _))
 have HO:=Lib.hid (sc_oneOf (HP4.out.below HB5.out) (n:=n) (by have:=HB5.out.size;omega) hnb _ modesL 3 rfl 3 HR5.out (by decide) (by decide))
 have hz5:=HB5.out.size
 rcases hO:oneF modesL (all.drop (k+1)) with f|⟨op,ts⟩
 ·rw[hO]at HO HV
  have HO2:=Lib.hid (HO.out.mono (R':=fun e w'=>e=failE f/\Fr n (fun i=>i=b) (W4.alloc (.cells #[.string ⟨#[105,115]⟩,.string ⟨#[104,97,115]⟩,.string ⟨#[98,101,103,105,110,115]⟩] 9)) w') (fun e w' h=>⟨h.res,h.fr⟩))
  clear hO
  go_wp2_with ((go_at_call 78;(with_reducible refine HO2.out.mono ?_);rintro e w6 ⟨rfl,hf6⟩;have HF6:=Lib.hid hf6;clear hf6))
  exact⟨rfl,PrPost.err HV.out ((HF4.out.below HB5.out hn).trans HF6.out (fun i hi=>.inl hi)) rfl⟩
 ·rw[hO]at HO HV
  have HO2:=Lib.hid (HO.out.mono (R':=fun e w'=>∃k2,e=.returned (.string (ofL op))/\PkS w' b A cap all k2/\ts=all.drop k2/\Fr n (fun i=>i=b) (W4.alloc (.cells #[.string ⟨#[105,115]⟩,.string ⟨#[104,97,115]⟩,.string ⟨#[98,101,103,105,110,115]⟩] 9)) w') (fun e w' h=>by
   obtain⟨v,k',rfl,hv,hp,he⟩:=h.res
   exact⟨k',by rw[hv],hp,he,h.fr⟩))
  have HOP:=Lib.hid (show op∈modesL from oneF_mem hO)
  clear hO
  go_upto_region 13 with((go_at_call 78;(with_reducible refine HO2.out.mono ?_);rintro e w6 ⟨k2,rfl,hp6,rfl,hf6⟩;have HP6:=Lib.hid hp6;have HF6:=Lib.hid hf6;clear hf6 hp6))
  have HF6w:=Lib.hid ((HF4.out.below HB5.out hn).trans HF6.out (fun i hi=>.inl hi))
  have HX6:=Lib.hid (show w6.heap[px]?=some (.cells #[.int .i64 1,.string T,.int .i64 (tn:Int),.int .i64 (tc:Int)] 118 (0,0)) from(HF6.out.oth px (by omega) (by omega)).trans ((HB5.out.block px (by omega)).trans HX4.out))
  have hz6:=HF6.out.size
  have hpz:px<w6.heap.size:=by omega
  obtain⟨OS,hOS⟩:∃OS,ofL op=OS:=⟨_,rfl⟩
  have HOS:=Lib.hid hOS
  rw[hOS]
  clear hOS HO HO2 HR5 HP4 HX4 HF4 HB5 HF6
  obtain⟨_,x1,_,_⟩:=tokBox_cells HX6.out
  have HNU:=Lib.hid (sc_quoted (HP6.out.below (Below.refl w6.heap.size w6).drew) (n:=n) (show n<=w6.drew.heap.size from by show n<=w6.heap.size;omega) hnb)
  rcases hN:quoF (all.drop k2) with f|⟨q,ts⟩
  ·rw[hN]at HNU
   have HV2:=Lib.hid (show X=.error f from by rw[HV.out];unfold bindE;simp only[hN])
   have HN2:=Lib.hid (HNU.out.mono (R':=fun e w'=>e=failE f/\Fr n (fun i=>i=b) w6.drew w') (fun e w' h=>⟨h.res,h.fr⟩))
   clear hN
   go_region_dies
   all_goals
    go_at_call 155
    (with_reducible refine HN2.out.mono ?_)
    rintro e w7 ⟨rfl,hf7⟩
    exact⟨rfl,PrPost.err HV2.out (HF6w.out.drew.trans hf7 (fun i hi=>.inl hi)) rfl⟩
  ·rw[hN]at HNU
   have HQL:=Lib.hid (quoF_len HP6.out.ok HP6.out.lt hN)
   obtain⟨qk,qt,qn,qc⟩:=q
   obtain⟨Q,hQ⟩:∃Q,ofL qt=Q:=⟨_,rfl⟩
   have HQ:=Lib.hid hQ
   have HN2:=Lib.hid (HNU.out.mono (R':=fun e w'=>∃k3,e=.returned (.agg #[.int .i64 (qk:Int),.string Q,.int .i64 (qn:Int),.int .i64 (qc:Int)])/\PkS w' b A cap all k3/\ts=all.drop k3/\Fr n (fun i=>i=b) w6.drew w') (fun e w' h=>by
    obtain⟨v',k',rfl,hv,hp,he⟩:=h.res
    exact⟨k',by rw[<-hQ];exact congrArg Ending.returned hv,hp,he,h.fr⟩))
   have HV2:=Lib.hid (show X=.ok (.txt tt op qt,ts) from by rw[HV.out];unfold bindE;simp only[hN])
   clear hN hQ
   go_region_held3 (fun w'=>w'.cell? ⟨px,1,none⟩=some (.string T))
    (first|exact x1|exact HX7.out)
    ((go_at_call 155;(with_reducible refine HN2.out.mono ?_);rintro e w7 ⟨k3,rfl,hp7,rfl,hf7⟩;have HP7:=Lib.hid hp7;have HF7:=Lib.hid (HF6w.out.drew.trans hf7 (fun i hi=>.inl hi));have HX7:=Lib.hid (show w7.cell? ⟨px,1,none⟩=some (.string T) from fr_cell hf7 x1 hpz (by omega));clear hp7 hf7))
   go_wp2_with fail
   go_ret
   refine PrPost.yes HV2.out HF7.out ?_ HP7.out
   have hc:condP w.heap.size (.txt tt op qt) (.iface 165 (.agg #[.string (ofL tt),.func (.func (txtFn tt)) #[] #[],.string (ofL op),.string (ofL qt)])) w7:=CondIn.txt HM.out HOP.out HQL.out
   rw[hT,HOS.out,HQ.out]at hc
   exact hc
end Go.Proofs.YtannhfnpigiggaaGreatDoor
