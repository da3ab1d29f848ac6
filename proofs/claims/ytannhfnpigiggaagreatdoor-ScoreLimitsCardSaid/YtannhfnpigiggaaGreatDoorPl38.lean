import Derived.Test.YtannhfnpigiggaaGreatDoorPl28
import Derived.Test.YtannhfnpigiggaaGreatDoorPl37
namespace Go.Proofs.YtannhfnpigiggaaGreatDoor
set_option linter.unusedSimpArgs false
set_option linter.unusedVariables false
open Go.RowKit
attribute [local go_sem] fld_tokR1 fld_tokR3
set_option maxHeartbeats 8000000 in
set_option maxRecDepth 100000 in
theorem rf_test_grp{n:Nat}{w:World}{b:Nat}{A:Option Addr}{cap k En:Nat}{l:List RT}(h:PkR w b A cap l En k)(hn:n<=w.heap.size)(hnb:n<=b){t:Tok}{o:Bs × List Tok}{m:Tok × List Tok}(h1:t.kind=1)(h0:t.text∉numFs)(h2:t.text∉txtFs)(hw:t.text=wGroup)(hv:(compF m.1.text).2.2=0)(h3:oneF isLs ((allT l En).drop k).tail=.ok o)(h4:quoF o.2=.ok m)(h5:(allT l En).drop k=t::((allT l En).drop k).tail) :
  Calls Tryz.prog 132 #[.pointer (some ⟨b,0,none⟩)] w (PrR (xP w.heap.size) n b A cap l En (Cond.grp m.1.text,m.2) w):=by
 have hone:oneF allFs ((allT l En).drop k)=.ok (t.text,((allT l En).drop k).tail):=by
  rw[h5];exact oneF_of (.inl h1) (by rw[hw];decide)
 have hbz:=heap_lt h.box
 have HX0:=Lib.hid (heap_alloc_new w (.cells xZ 57))
 have HB0:=Lib.hid (alloc_bel w (.cells xZ 57))
 have HP0:=Lib.hid (h.below HB0.out)
 clear h
 obtain⟨T,hT⟩:∃T,ofL t.text=T:=⟨_,rfl⟩
 have HT:=Lib.hid hT
 have H3:=Lib.hid h3
 have H4:=Lib.hid h4
 have hin5:inBs numFs (toL T)=false:=by
  rw[<-hT,toL_ofL]
  unfold inBs
  rw[List.any_eq_false]
  intro x hx e
  exact h0 (by rw[show t.text=x from(by have e:=(beq_iff_eq).1 e;exact e.symm)];exact hx)
 have hin3:inBs txtFs (toL T)=false:=by
  rw[<-hT,toL_ofL]
  unfold inBs
  rw[List.any_eq_false]
  intro x hx e
  exact h2 (by rw[show t.text=x from(by have e:=(beq_iff_eq).1 e;exact e.symm)];exact hx)
 have hTW:T=ofL wGroup:=by rw[<-hT,hw]
 have HIN5:=Lib.hid (fun (wx:World)=>rf_in_lit (N:=5) (wx:=wx) row_A5 rfl (by decide) T hin5)
 have HIN3:=Lib.hid (fun (wx:World) (z:Nat) (hz:z=wx.heap.size)=>rf_in_at (N:=3) hz row_A3t rfl (by decide) T hin3)
 have HO1:=Lib.hid (fun (wx:World) (hp:PkR wx b A cap l En k) (hz:n<=wx.heap.size)=>rf_one_lit (n:=n) (N:=10) row_A10 rfl (by decide) hp hz hnb hone)
 rw[show ofL ((t.text,((allT l En).drop k).tail):Bs × List Tok).1=T from hT]at HO1
 obtain⟨O,hO⟩:∃O,ofL o.1=O:=⟨_,rfl⟩
 have HO2:=Lib.hid (fun (wx:World) (kx:Nat) (hp:PkR wx b A cap l En kx) (hz:n<=wx.heap.size) (hk:((allT l En).drop k).tail=(allT l En).drop kx)=>rf_one_lit (n:=n) (N:=1) row_A1i rfl (by decide) hp hz hnb (show oneF isLs ((allT l En).drop kx)=.ok o from by rw[<-hk];exact h3))
 rw[hO]at HO2
 have HOO:=Lib.hid hO
 have HN2:=Lib.hid (fun (wx:World) (kx:Nat) (hp:PkR wx b A cap l En kx) (hz:n<=wx.heap.size) (hk:o.2=(allT l En).drop kx)=>rf_text_at hp hz hnb (show quoF ((allT l En).drop kx)=.ok m from by rw[<-hk];exact h4))
 obtain⟨M,hM⟩:∃M,ofL m.1.text=M:=⟨_,rfl⟩
 rw[hM]at HN2
 have HMM:=Lib.hid hM
 have ho:o.1=wIs:=by have:=oneF_mem (l:=isLs) (r:=o.2) (x:=o.1) h3;simpa[isLs] using this
 have HC:=Lib.hid (fun (wx:World) (hl:M.size<=1000000)=>(rf_compile M wx hl).mono (R':=fun e w'=>(∃A N c n,e=.returned (.tuple #[.agg #[.string M,.slice A N c],.int .i64 n,.int .i64 0]))/\Below wx.heap.size wx w') (fun e w' hp=>by
  obtain⟨v,h1,h2,h3⟩:=hp
  have hv2:(compF (toL M)).2.2=0:=by rw[<-hM,toL_ofL];exact hv
  rcases h2 with⟨_,A,c,h2,_,_⟩|⟨h2,_⟩
  ·rw[hv2,h2]at h1
   exact⟨⟨A,_,c,_,h1⟩,h3⟩
  ·exact absurd hv2 h2))
 have HML:=Lib.hid (show M.size=m.1.text.length from by rw[<-toL_length, ← hM,toL_ofL])
 have HV:=Lib.hid hv
 have hEQ:(T.toList == [97,117,116,104,111,114])=false:=by rw[hTW];decide +kernel
 clear hTW hv
 clear hT h3 h4 h5 hin5 hin3 hO hM
 go_enter Tryz.func132,Tryz.ntmps132
 go_upto_region 1 with fail
 generalize w.alloc (.cells xZ 57)=W0 at *
 have hz0:=HB0.out.size
 go_upto_region 2 with((go_at_call 58;(with_reducible refine(HO1.out _ HP0.out (by omega)).mono ?_);(rintro e w2 ⟨rfl,hf2,k2,hp2,hk2⟩;have HF2:=Lib.hid ((Fr.of (n:=n) (S:=fun i=>i=b) HB0.out hn).trans hf2 (fun i hi=>.inl hi));have HP2:=Lib.hid hp2;have HK2:=Lib.hid hk2;have HX2:=Lib.hid ((hf2.oth w.heap.size (heap_lt HX0.out) (by omega)).trans HX0.out);clear hf2 hp2 hk2)))
 have hz2:=HF2.out.size
 have HT3:=Lib.hid ((show TS n b A cap l En w w2.heap.size k2 (xC 116 (.slice none 0 0) T ⟨#[]⟩ 0 ⟨#[]⟩) (w2.alloc (.cells (xC 116 (.slice none 0 0) T ⟨#[]⟩ 0 ⟨#[]⟩) 57)) from⟨HP2.out.below (alloc_bel _ _),HF2.out.trans (Fr.of (n:=n) (S:=fun i=>i=b) (alloc_bel _ _) (by omega)) (fun i hi=>.inl hi),((alloc_bel w2 _).block _ (heap_lt HX2.out)).trans HX2.out,heap_alloc_new w2 _,heap_lt HX2.out,hbz,hn⟩))
 go_upto_region 3 with fail
 generalize w2.alloc (.cells (xC 116 (.slice none 0 0) T ⟨#[]⟩ 0 ⟨#[]⟩) 57)=W3 at *
 generalize w2.heap.size=xb at *
 obtain⟨_,_,_,e3,_,hbw⟩:=HT3.out.pk.cells
 go_upto_region 9 with(go_at_call 59;(with_reducible refine(HIN5.out _).mono ?_);(rintro e w4 ⟨rfl,rfl⟩))
 have HT3b:=Lib.hid (HT3.out.below (alloc_bel W3 (.cells A5 9)))
 generalize W3.alloc (.cells A5 9)=W3b at *
 go_upto_region 13 with(go_at_call 59;(with_reducible refine(HIN3.out _ _ (by simp)).mono ?_);(rintro e w4 ⟨rfl,rfl⟩))
 have HT4:=Lib.hid (HT3b.out.below (alloc_bel W3b (.cells A3t 9)))
 generalize W3b.alloc (.cells A3t 9)=W4 at *
 go_upto_region 14 with((go_at_call 58;(with_reducible refine(HO2.out _ _ HT4.out.pk HT4.out.zle HK2.out).mono ?_);(rintro e w5 ⟨rfl,hf5,k5,hp5,hk5⟩;have HT5:=Lib.hid (HT4.out.step hf5 hp5);have HK5:=Lib.hid hk5;obtain⟨c0,c1,c2,c3,c4,c5,hfz,hxw⟩:=xBox_cells HT5.out.xbox;clear hf5 hp5 hk5)))
 have HT6:=Lib.hid (show TS n b A cap l En w xb k5 (xC 116 (.slice none 0 0) T O 0 ⟨#[]⟩) (w5.setCell ⟨xb,3,none⟩ (.string O)) from HT5.out.set 3 (.string O))
 clear c0 c1 c2 c3 c4 c5 hfz hxw
 generalize w5.setCell ⟨xb,3,none⟩ (.string O)=W6 at *
 go_upto_region 16 with((go_at_call 148;(with_reducible refine(HN2.out _ _ HT6.out.pk HT6.out.zle HK5.out).mono ?_);(rintro e w7 ⟨rfl,hm7,hf7,k7,hp7,hk7⟩;have HT7:=Lib.hid (HT6.out.step hf7 hp7);have HK7:=Lib.hid hk7;obtain⟨c0,c1,c2,c3,c4,c5,hfz,hxw⟩:=xBox_cells HT7.out.xbox;clear hf7 hp7 hk7)))
 have HT8:=Lib.hid ((show TS n b A cap l En w xb k7 (xC 116 (.slice none 0 0) T O 0 M) (w7.setCell ⟨xb,5,none⟩ (.string M)) from HT7.out.set 5 (.string M)).below (alloc_bel _ (.cells #[.int .u8 115,.string M,.int .i64 (m.1.num:Int),.int .i64 (m.1.col:Int)] 98)))
 have HTB:=Lib.hid (alloc_at (w7.setCell ⟨xb,5,none⟩ (.string M)) (.cells #[.int .u8 115,.string M,.int .i64 (m.1.num:Int),.int .i64 (m.1.col:Int)] 98) w7.heap.size (by simp))
 clear c0 c1 c2 c3 c4 c5 hfz hxw
 generalize (w7.setCell ⟨xb,5,none⟩ (.string M)).alloc (.cells #[.int .u8 115,.string M,.int .i64 (m.1.num:Int),.int .i64 (m.1.col:Int)] 98)=W8 at *
 generalize w7.heap.size=tb at *
 obtain⟨_,_,_,e8,_,hbw8⟩:=HT8.out.pk.cells
 obtain⟨t0,t1,t2,t3⟩:=tokBox_cells HTB.out
 have hml:M.size<=1000000:=by rw[HML.out];exact hm7
 have HM7:=Lib.hid hm7
 have HCX:=Lib.hid (HC.out W8 hml)
 clear HC hm7 HML
 go_upto_region 22 with fail
 go_upto_region 23 with((go_at_call 67;(with_reducible refine HCX.out.mono ?_);(rintro e w9 ⟨⟨A9,N9,c9,n9,rfl⟩,hb9⟩;have HT9a:=Lib.hid (HT8.out.below hb9);clear hb9)))
 have HT9:=Lib.hid (HT9a.out.below (alloc_bel w9 (.cells #[.string M,.slice A9 N9 c9] 137)))
 generalize w9.alloc (.cells #[.string M,.slice A9 N9 c9] 137)=W9 at *
 obtain⟨c0,c1,c2,c3,c4,c5,hfz,hxw⟩:=xBox_cells HT9.out.xbox
 obtain⟨d0,d1,d2,d3,d4,d5,hfd,hdw⟩:=xBox_cells HT9.out.rbox
 have hxd:=HT9.out.lt
 clear HT9a HTB t0 t1 t2 t3 e8 hbw8
 go_upto_region 25 with fail
 go_wp2_with fail
 exact TS.ret HT9.out (fun A W=>by rw[<-HT.out,hw, ← HOO.out,ho, ← HMM.out];exact .grp HV.out HM7.out) HK7.out rfl
theorem rf_test{n:Nat}{w:World}{b:Nat}{A:Option Addr}{cap k En:Nat}{l:List RT}(h:PkR w b A cap l En k)(hn:n<=w.heap.size)(hnb:n<=b){a:Cond × List Tok}(ha:testF ((allT l En).drop k)=.ok a) :
  Calls Tryz.prog 132 #[.pointer (some ⟨b,0,none⟩)] w (PrR (xP w.heap.size) n b A cap l En a w):=by
 rcases testF_cases ha with⟨t,o,m,h1,h2,ho,hm,hts,rfl⟩|⟨t,m,q,h1,h0,h2,ho,hq,hts,rfl⟩|⟨t,f,i,q,hts,h1,h0,h2,hf,hi,hq,e2,hw⟩
 ·exact rf_test_cmp h hn hnb h1 h2 ho hm hts
 ·exact rf_test_txt h hn hnb h1 h0 h2 ho hq hts
 ·obtain⟨a1,a2⟩:=a
  simp only at e2 hw
  subst e2
  have hf':f=(t.text,((allT l En).drop k).tail):=by
   rw[hts]at hf
   exact(oneF_any hf).2
  subst hf'
  rcases hw with⟨e1,hv,e3⟩|⟨e1,hv,e3⟩
  ·subst e3
   exact rf_test_grp h hn hnb h1 h0 h2 e1 hv hi hq hts
  ·subst e3
   exact rf_test_auth h hn hnb h1 h0 h2 e1 hv hi hq hts
theorem info_X:(Tryz.prog.info? 57).map (fun i=>(i.zero,i.size,i.bytes))=some (some (.agg #[.int .u8 0,.slice none 0 0,.string ⟨#[]⟩,.string ⟨#[]⟩,.int .i64 0,.string ⟨#[]⟩]),6,88):=by kernel_rfl
theorem el_X:Elem Tryz.prog 55 57 6 88:=Elem.of Tryz.underlying55 info_X rfl (by omega)
theorem step_pour{P:Program}{ops:Array Oper}{o:Oper}{a:Act}{w:World}{K:Act->World->Prop}{Q:Exit->Act->World->Prop}{E0:Prop}{t e:TypeId}{size bytes:Nat}(E:Elem P t e size bytes)(hgd:o.guard=none)(s x:Operand)
  (ho:o.op=.call { callee:=.builtin .append,args:=#[s,x],argTypes:=#[t,t] }) {base:Nat} {v:Value} {n:Nat} {xs:List Value} (hown:w.ownsRow base e size v n xs) (hs:a.eval s=v)
  {A:Option Addr} {m c:Nat} {news:List Value} (hx:a.eval x=.slice A m c) (hr:Row w A news) (hl:news.length=m*size) (h1:∀u∈news,u.oneCell'=true) (hnil:A=none->m=0)
  (hbytes:(n+m)*bytes<=140737488355328) (h63:n+m<=maxLen) (hbase:base<=w.heap.size)
  (h:∀v' w',w'.ownsRow base e size v' (n+m) (xs++news)->w.grownBy w' v.ownBlock->(v'.ownBlock=v.ownBlock\/v'.ownBlock=some w.heap.size)->K (a.put o.dst v') w') :
  if Region.wanted o (yielded ops a.tmps)=true then Oper.wp P o a w K Q else E0:=by
 have hw:Region.wanted o (yielded ops a.tmps)=true:=by simp[Region.wanted,hgd]
 rw[if_pos hw]
 obtain⟨v',w',hrun,h2,h3,h4⟩:=run_pour E w base o.type v n xs hown A m c news hr hl h1 hnil h63 hbytes hbase
 unfold Oper.wp execOp
 simp only[ho,resolve,invoke,builtin,Sem.run_bind,Sem.run_pure,Result.andThen_ok,List.map_toArray,List.map_cons,List.map_nil,hs,hx,hrun]
 exact h v' w' h2 h3 h4
theorem XIn.form2{A:Nat->Prop}{w:World}{x:Cond}{v:Array Value}(h:XIn A w x v):∃k B N c f op n t,v=xC k (.slice B N c) f op n t:=by
 cases h<;>exact⟨_,_,_,_,_,_,_,_,rfl⟩
structure LstX(z:Nat)(v:Value)(cs:List Cond)(vs:List (Array Value))(w:World):Prop where
 own:w.ownsRow z 57 6 v cs.length (vs.flatMap (·.toList))
 len:vs.length=cs.length
 el:∀(i:Nat) (h1:i<cs.length) (h2:i<vs.length),XIn (fun k=>z<=k/\k<w.heap.size/\v.ownBlock≠some k) w cs[i] vs[i]
section
variable {z : Nat} {v : Value} {cs : List Cond} {vs : List (Array Value)} {w w' : World}
theorem LstX.nil(z:Nat)(w:World):LstX z (.slice none 0 0) [] [] w:=⟨World.ownsRow_nil w z _ 6,rfl,fun i h=>by simp at h⟩
theorem LstX.keep(h:LstX z v cs vs w)(hk:∀k,z<=k->k<w.heap.size->w'.heap[k]?=w.heap[k]?)(hz:w.heap.size<=w'.heap.size):LstX z v cs vs w':=by
 refine⟨own_oth h.own fun k e=>hk k (h.own.lt k e).1 (h.own.lt k e).2,h.len,fun i h1 h2=>?_⟩
 exact((h.el i h1 h2).keep (fun k hA=>hk k hA.1 hA.2.1) hz).mono fun k hA=>⟨hA.1,Nat.lt_of_lt_of_le hA.2.1 hz,hA.2.2⟩
theorem LstX.fr{n b:Nat}(h:LstX z v cs vs w)(hf:Fr n (fun k=>k=b) w w')(hbz:b<z):LstX z v cs vs w' :=
 h.keep (fun k hk hz=>hf.oth k hz (by omega)) hf.size
theorem LstX.push{v':Value}{c:Cond}{x:Array Value}{z1:Nat}(h:LstX z v cs vs w)(hz1:z<=z1)(hx:XIn (fun k=>z1<=k/\k<w.heap.size) w c x)(hgl:∀g,v.ownBlock=some g->g<z1)(ho:w'.ownsRow z 57 6 v' (cs.length+1) (vs.flatMap (·.toList)++x.toList))(hg:w.grownBy w' v.ownBlock)
  (hat:v'.ownBlock=v.ownBlock\/∀g,v'.ownBlock=some g->w.heap.size<=g):LstX z v' (cs ++ [c]) (vs ++ [x]) w':=by
 have hn:∀k,k<w.heap.size->v.ownBlock≠some k->v'.ownBlock≠some k:=fun k hk hv e=>by
  rcases hat with h1|h1
  ·exact hv (h1 ▸ e)
  ·have:=h1 k e;omega
 refine⟨by rw[List.length_append,List.flatMap_append];simpa using ho,by simp[h.len],fun i h1 h2=>?_⟩
 by_cases hi:i<cs.length
 ·have hi2:i<vs.length:=by rw[h.len];exact hi
  rw[List.getElem_append_left hi,List.getElem_append_left hi2]
  exact((h.el i hi hi2).keep (fun k hk=>hg.block k hk.2.1 (fun e=>hk.2.2 e.symm)) hg.size).mono fun k hk=>⟨hk.1,Nat.lt_of_lt_of_le hk.2.1 hg.size,hn k hk.2.1 hk.2.2⟩
 ·have h1':i=cs.length:=by simp at h1;omega
  subst h1'
  have e1:(cs ++ [c])[cs.length]=c:=by simp
  have e2:(vs ++ [x])[cs.length]'h2=x:=by
   have hl:=h.len
   rw[List.getElem_append_right (by omega)];simp[hl]
  rw[e1,e2]
  exact(hx.keep (fun k hk=>hg.block k hk.2 (fun e=>by have:=hgl k e.symm;omega)) hg.size).mono fun k hk=>⟨by omega,Nat.lt_of_lt_of_le hk.2 hg.size,hn k hk.2 (fun e=>by have:=hgl k e;omega)⟩
theorem LstX.one{c:Cond}(h:LstX z v [c] vs w):∃g cap k B N c0 f op n t,v=.slice (some ⟨g,0,none⟩) 1 cap/\z<=g/\g<w.heap.size/\vs=[xC k (.slice B N c0) f op n t]/\XIn (fun k=>z<=k/\k<w.heap.size) w c (xC k (.slice B N c0) f op n t) ∧
  w.cell? ⟨g,0,none⟩=some (.int .u8 k)/\w.cell? ⟨g,1,none⟩=some (.slice B N c0)/\w.cell? ⟨g,2,none⟩=some (.string f)/\w.cell? ⟨g,3,none⟩=some (.string op)/\w.cell? ⟨g,4,none⟩=some (.int .i64 n)/\w.cell? ⟨g,5,none⟩=some (.string t):=by
 have hl:=h.len
 match vs,hl with
 | [x],_ =>
  have he:=h.el 0 (by simp) (by simp)
  obtain⟨k,B,N,c0,f,op,n,t,rfl⟩:=he.form2
  rcases own_form h.own with⟨_,h0⟩|⟨g,cap,rfl,hg1,hg2,_,hc⟩
  ·simp at h0
  ·exact⟨g,cap,k,B,N,c0,f,op,n,t,rfl,hg1,hg2,rfl,he.mono fun k hk=>⟨hk.1,hk.2.1⟩,hc 0 _ rfl,hc 1 _ rfl,hc 2 _ rfl,hc 3 _ rfl,hc 4 _ rfl,hc 5 _ rfl⟩
theorem LstX.row(h:LstX z v cs vs w)(hp:0<cs.length):∃g cap,v=.slice (some ⟨g,0,none⟩) cs.length cap/\z<=g/\g<w.heap.size/\Row w (some ⟨g,0,none⟩) (vs.flatMap (·.toList)):=by
 rcases own_form h.own with⟨_,h0⟩|⟨g,cap,rfl,hg1,hg2,_,hc⟩
 ·omega
 ·exact⟨g,cap,rfl,hg1,hg2,Row.mk _ _ _ _ hg2 fun j u hu=>by rw[Nat.zero_add];exact hc j u hu⟩
end
theorem LstX.either{z g cp:Nat}{l:List Cond}{vs:List (Array Value)}{w:World}(h:LstX z (.slice (some ⟨g,0,none⟩) l.length cp) l vs w)(hz:z<=g)(hg:g<w.heap.size)(hp:0<l.length)(hm:l.length<=2000000):XIn (fun k=>z<=k/\k<w.heap.size) w (.either l) (xC 111 (.slice (some ⟨g,0,none⟩) l.length cp) ⟨#[]⟩ ⟨#[]⟩ 0 ⟨#[]⟩):=by
 obtain⟨A2,c2,e2,hr⟩:=own_row h.own
 injection e2 with h1 h2 h3
 subst h1
 exact XIn.either h.len hp hm ⟨hz,hg⟩ hr fun i h1 h2=>(h.el i h1 h2).mono fun k hk=>⟨hk.1,hk.2.1⟩
theorem LstX.both{z g cp:Nat}{l:List Cond}{vs:List (Array Value)}{w:World}(h:LstX z (.slice (some ⟨g,0,none⟩) l.length cp) l vs w)(hz:z<=g)(hg:g<w.heap.size)(hp:0<l.length)(hm:l.length<=2000000):XIn (fun k=>z<=k/\k<w.heap.size) w (.both l) (xC 97 (.slice (some ⟨g,0,none⟩) l.length cp) ⟨#[]⟩ ⟨#[]⟩ 0 ⟨#[]⟩):=by
 obtain⟨A2,c2,e2,hr⟩:=own_row h.own
 injection e2 with h1 h2 h3
 subst h1
 exact XIn.both h.len hp hm ⟨hz,hg⟩ hr fun i h1 h2=>(h.el i h1 h2).mono fun k hk=>⟨hk.1,hk.2.1⟩
structure LxS(n b:Nat)(A:Option Addr)(cap:Nat)(l:List RT)(En:Nat)(kc:Int)(w:World)(p:Nat)(cs:List Cond)(vs:List (Array Value))(v:Value)(k:Nat)(W:World):Prop where
 pk:PkR W b A cap l En k
 fr:Fr n (fun i=>i=b) w W
 rbox:W.heap[w.heap.size]?=some (.cells xZ 57 (0,0))
 xbox:W.heap[p]?=some (.cells (xC kc v ⟨#[]⟩ ⟨#[]⟩ 0 ⟨#[]⟩) 57 (0,0))
 lst:LstX (p+1) v cs vs W
 bl:b<w.heap.size
 nz:n<=w.heap.size
 pe:p=w.heap.size+1
section
variable {n b : Nat} {A : Option Addr} {cap : Nat} {l : List RT} {En : Nat} {kc : Int} {w : World} {p : Nat} {cs : List Cond} {vs : List (Array Value)} {v : Value} {k : Nat} {W W' : World}
theorem LxS.step(h:LxS n b A cap l En kc w p cs vs v k W)(hf:Fr n (fun i=>i=b) W W'){k':Nat}(hp:PkR W' b A cap l En k'):LxS n b A cap l En kc w p cs vs v k' W' :=
 ⟨hp,h.fr.trans hf (fun i hi=>.inl hi),(hf.oth _ (heap_lt h.rbox) (by have:=h.bl;omega)).trans h.rbox,(hf.oth _ (heap_lt h.xbox) (by have:=h.bl;have:=h.pe;omega)).trans h.xbox,h.lst.fr hf (by have:=h.bl;have:=h.pe;omega),h.bl,h.nz,h.pe⟩
theorem LxS.drew(h:LxS n b A cap l En kc w p cs vs v k W):LxS n b A cap l En kc w p cs vs v k W.drew :=
 ⟨h.pk.keep (fun _ _=>rfl) (Nat.le_refl _),h.fr.drew,h.rbox,h.xbox,h.lst.keep (fun _ _ _=>rfl) (Nat.le_refl _),h.bl,h.nz,h.pe⟩
theorem LxS.zle(h:LxS n b A cap l En kc w p cs vs v k W):n<=W.heap.size:=by have:=h.fr.size;have:=h.nz;omega
theorem LxS.cells(h:LxS n b A cap l En kc w p cs vs v k W):W.cell? ⟨p,0,none⟩=some (.int .u8 kc)/\W.cell? ⟨p,1,none⟩=some v/\W.cell? ⟨p,2,none⟩=some (.string ⟨#[]⟩)/\W.cell? ⟨p,3,none⟩=some (.string ⟨#[]⟩)/\W.cell? ⟨p,4,none⟩=some (.int .i64 0)/\W.cell? ⟨p,5,none⟩=some (.string ⟨#[]⟩)/\W.frozen? ⟨p,1,none⟩=false/\p<W.heap.size :=
 ⟨by rw[Lib.cell_of_heap h.xbox];rfl,by rw[Lib.cell_of_heap h.xbox];rfl,by rw[Lib.cell_of_heap h.xbox];rfl,by rw[Lib.cell_of_heap h.xbox];rfl,by rw[Lib.cell_of_heap h.xbox];rfl,by rw[Lib.cell_of_heap h.xbox];rfl,Lib.frozen_of_heap h.xbox 1,heap_lt h.xbox⟩
theorem LxS.low{x:Array Value}{W4:World}(h:LxS n b A cap l En kc w p cs vs v k W)(hg:(W.alloc (.cells x 57)).grownBy W4 v.ownBlock)(j:Nat)(hj:j<=p):W4.heap[j]?=W.heap[j]?:=by
 have hj2:j<W.heap.size:=by have:=heap_lt h.xbox;omega
 have hb:=alloc_bel W (.cells x 57)
 rw[hg.block j (Nat.lt_of_lt_of_le hj2 hb.size) (fun e=>by have:=(h.lst.own.lt j e.symm).1;omega),hb.block j hj2]
theorem LxS.push{c:Cond}{x:Array Value}{z1:Nat}{v':Value}{W4:World}(h:LxS n b A cap l En kc w p cs vs v k W)(hz1:p+1<=z1)(hgl:∀g,v.ownBlock=some g->g<z1)(hx:XIn (fun k=>z1<=k/\k<W.heap.size) W c x)
  (ho:W4.ownsRow (p+1) 57 6 v' (cs.length+1) (vs.flatMap (·.toList)++x.toList)) (hg:(W.alloc (.cells x 57)).grownBy W4 v.ownBlock) (hat:v'.ownBlock=v.ownBlock\/v'.ownBlock=some (W.alloc (.cells x 57)).heap.size) :
  LxS n b A cap l En kc w p (cs ++ [c]) (vs ++ [x]) v' k (W4.setCell ⟨p,1,none⟩ v'):=by
 have hb:=alloc_bel W (.cells x 57)
 have hlow:=h.low hg
 generalize W.alloc (.cells x 57)=W3 at *
 have hl3:=h.lst.keep (fun k _ hz=>hb.block k hz) hb.size
 have hx3:XIn (fun k=>z1<=k/\k<W3.heap.size) W3 c x:=(hx.keep (fun k hk=>hb.block k hk.2) hb.size).mono fun k hk=>⟨hk.1,Nat.lt_of_lt_of_le hk.2 hb.size⟩
 have hl4:=hl3.push hz1 hx3 hgl ho hg (hat.elim .inl fun e=>.inr fun g e2=>by rw[e]at e2;injection e2 with e2;omega)
 have hv:∀g,v.ownBlock=some g->p+1<=g:=fun g e=>(h.lst.own.lt g e).1
 have hz4:W.heap.size<=W4.heap.size:=Nat.le_trans hb.size hg.size
 have hbl:=h.bl
 have hnz:=h.nz
 have hzw:=h.fr.size
 have hpe:=h.pe
 refine⟨(h.pk.keep (fun j hj=>hlow j (by omega)) hz4).oth (by omega) _,?_,?_,?_,?_,hbl,hnz,hpe⟩
 ·refine Fr.set ?_ v' (by omega) (.inr (by omega))
  refine(h.fr.below hb hnz).grown hg hnz fun g e=>?_
  have:=hv g e
  exact⟨by omega,.inr (by omega)⟩
 ·rw[heap_set_ne _ (by omega),hlow _ (by omega)];exact h.rbox
 ·rw[heap_set ((hlow _ (Nat.le_refl _)).trans h.xbox)];rfl
 ·exact hl4.keep (fun j hj _=>heap_set_ne v' (by omega)) (by simp)
theorem lst_ret{Q:Ending->World->Prop}{W:World}{r:Nat}{k:Int}{L:Value}{f op:ByteArray}{m:Int}{t:ByteArray}{T:Array Value}(hb:W.heap[r]?=some (.cells (xC k L f op m t) 57 (0,0)))
  (hT2:T[6]?=some (.pointer (some ⟨r,0,none⟩))) (hQ:Q (.returned (.agg (xC k L f op m t))) W) :
  bodyPost Tryz.prog Tryz.f92 Q .ret { tmps:=T,defers := [] } W:=by
 obtain⟨c0,c1,c2,c3,c4,c5,_,_⟩:=xBox_cells hb
 refine bodyPost_ret (v:=.agg (xC k L f op m t)) ?_ rfl hQ
 simp[results,Tryz.f92,go_sem,hT2,c0,c1,c2,c3,c4,c5]
theorem XIn.put{z:Nat}{w W:World}{c:Cond}{v:Array Value}(h:XIn (fun k=>z<=k/\k<W.heap.size) W c v)(hz:w.heap.size<z){kk:Int}{L:Value}{f op:ByteArray}{m:Int}{t:ByteArray} :
  XIn (fun k=>w.heap.size<=k/\k<(putX w.heap.size kk L f op m t W).heap.size) (putX w.heap.size kk L f op m t W) c v :=
 (h.keep (fun k hk=>putX_ne (by omega)) (by rw[putX_size];exact Nat.le_refl _)).mono fun k hk=>⟨by omega,by rw[putX_size];exact hk.2⟩
theorem LxS.ret(h:LxS n b A cap l En kc w p cs vs v k W){kk:Int}{L:Value}{f op:ByteArray}{m:Int}{t:ByteArray}{T:Array Value}{c:Cond}{r:List Tok}(hx:XIn (fun k=>p+1<=k/\k<W.heap.size) W c (xC kk L f op m t))(hr:r=(allT l En).drop k)
  (hT2:T[6]?=some (.pointer (some ⟨w.heap.size,0,none⟩))):bodyPost Tryz.prog Tryz.f92 (PrR (xP w.heap.size) n b A cap l En (c,r) w) .ret { tmps:=T,defers := [] } (putX w.heap.size kk L f op m t W) :=
 lst_ret (putX_box h.rbox) hT2 ⟨putX_fr h.fr h.nz (.inr (Nat.le_refl _)),_,k,rfl,⟨_,rfl,hx.put (by have:=h.pe;omega)⟩,putX_pk h.pk h.bl,hr⟩
end
def pkAtR(w:World)(b:Nat):Nat:=match w.cell? ⟨b,1,none⟩ with
 | some (.int _ k)=>k.toNat
 | _=>0
theorem pkAtR_of{w:World}{b:Nat}{A:Option Addr}{cap k En:Nat}{l:List RT}(h:PkR w b A cap l En k):pkAtR w b=k:=by
 unfold pkAtR;rw[h.cells.2.1];simp
def joinX(mk:List Cond->Cond):List Cond->Cond
 | [c]=>c
 | l=>mk l
theorem joinC_X(mk:List Cond->Cond)(c:Cond)(l:List Cond):joinC mk c l=joinX mk (c::l):=by cases l<;>rfl
theorem joinX_more(mk:List Cond->Cond)(l:List Cond)(h:1<l.length):joinX mk l=mk l:=by
 match l,h with
 | _::_::_,_=>rfl
def RestX(word:Bs)(mk:List Cond->Cond)(p:Pr Cond)(cs:List Cond)(ts:List Tok)(a:Cond × List Tok):Prop :=
 ∃c g m,p ts=.ok c/\c.2.length<=g/\moreF word p g c.2=.ok m/\a=(joinX mk (cs++c.1::m.1),m.2)
theorem RestX.first{word:Bs}{mk:List Cond->Cond}{p:Pr Cond}{ts:List Tok}{a:Cond × List Tok}(h:listC word mk p ts=.ok a):RestX word mk p [] ts a:=by
 unfold listC at h
 obtain⟨c,h1,h⟩:=bindE_ok h
 obtain⟨m,h2,h⟩:=bindE_ok h
 injection h with h
 exact⟨c,_,m,h1,Nat.le_refl _,h2,by rw[<-h,joinC_X];rfl⟩
theorem RestX.next{word:Bs}{mk:List Cond->Cond}{p:Pr Cond}(hp:Sh p){cs:List Cond}{ts:List Tok}{a:Cond × List Tok}(h:RestX word mk p cs ts a):∃c,p ts=.ok c ∧
  (isT word c.2=false->a=(joinX mk (cs ++ [c.1]),c.2))/\(isT word c.2=true->RestX word mk p (cs ++ [c.1]) c.2.tail a):=by
 obtain⟨c,g,m,h1,hg,h2,h3⟩:=h
 refine⟨c,h1,fun hq=>?_,fun hq=>?_⟩
 ·have:m=([],c.2):=by
   cases g with
   | zero=>unfold moreF at h2;injection h2 with h2;exact h2.symm
   | succ g =>
    unfold moreF at h2
    rw[hq]at h2
    injection h2 with h2;exact h2.symm
  rw[h3,this]
 ·have hl:0<c.2.length:=by
   cases hc:c.2 with
   | nil=>rw[hc]at hq;cases hq
   | cons t r=>simp
  match g,hg,h2 with
  | 0,hg,_=>omega
  | g+1,hg,h2 =>
   unfold moreF at h2
   rw[if_pos hq]at h2
   obtain⟨c2,e1,h2⟩:=bindE_ok h2
   obtain⟨m2,e2,h2⟩:=bindE_ok h2
   injection h2 with h2
   have:=hp _ _ e1
   refine⟨c2,g,m2,e1,by rw[List.length_tail]at this;omega,e2,?_⟩
   rw[h3, ← h2]
   simp
set_option maxHeartbeats 8000000 in
set_option maxRecDepth 100000 in
theorem rf_list_and {n : Nat} {w : World} {b : Nat} {A : Option Addr} {cap k En : Nat} {l : List RT} (h : PkR w b A cap l En k) (hn : n ≤ w.heap.size) (hnb : n ≤ b) (d : Int) {p : Pr Cond} (hsh : Sh p)
    (hin : ∀ (wx : World) (kx : Nat) (a : Cond × List Tok), PkR wx b A cap l En kx → n ≤ wx.heap.size → p ((allT l En).drop kx) = .ok a → Calls Tryz.prog 115 #[.pointer (some ⟨b, 0, none⟩), .int .i64 d] wx (PrR (xP wx.heap.size) n b A cap l En a wx))
    {a : Cond × List Tok} (ha : listC wAnd .both p ((allT l En).drop k) = .ok a) :
    Calls Tryz.prog 92 #[.pointer (some ⟨b, 0, none⟩), .int .u8 97, .int .i64 d] w (PrR (xP w.heap.size) n b A cap l En a w) := by
  have HIN := Lib.hid hin; clear hin
  have HSH := Lib.hid hsh; clear hsh
  have hbw := h.cells.2.2.2.2.2
  have hfew := h.few
  have HX0 := Lib.hid (heap_alloc_new w (.cells xZ 57))
  have HB0 := Lib.hid (alloc_bel w (.cells xZ 57))
  have HA := Lib.hid (RestX.first ha)
  have HP0 := Lib.hid (h.below HB0.out)
  have hz0 : (w.alloc (.cells xZ 57)).heap.size = w.heap.size + 1 := by simp
  clear h ha
  go_enter Tryz.func92, Tryz.ntmps92
  go_upto_region 1 with fail
  generalize w.alloc (.cells xZ 57) = W0 at *
  have HS0 := Lib.hid (show LxS n b A cap l En 97 w W0.heap.size [] [] (.slice none 0 0) k (W0.alloc (.cells (xC 97 (.slice none 0 0) ⟨#[]⟩ ⟨#[]⟩ 0 ⟨#[]⟩) 57)) from
    ⟨HP0.out.below (alloc_bel _ _), Fr.of (HB0.out.trans ((alloc_bel W0 _).mono (by omega))) hn, ((alloc_bel W0 _).block _ (by omega)).trans HX0.out, alloc_at W0 _ _ rfl, LstX.nil _ _, hbw, hn, hz0⟩)
  have HZ0 := Lib.hid hz0
  clear hz0
  go_upto_region 5 with fail
  generalize W0.alloc (.cells (xC 97 (.slice none 0 0) ⟨#[]⟩ ⟨#[]⟩ 0 ⟨#[]⟩) 57) = W1 at *
  clear HX0 HB0 HP0
  generalize W0.heap.size = p0 at *
  go_loopw [14] (fun _ wr => ∃ (cs : List Cond) (vs : List (Array Value)) (v : Value) (kr : Nat), LxS n b A cap l En 97 w p0 cs vs v kr wr ∧ RestX wAnd .both p cs ((allT l En).drop kr) a ∧ cs.length ≤ kr)
    (fun _ wr => l.length + 1 - pkAtR wr b)
  case atStart => exact ⟨[], [], _, k, HS0.out, HA.out, by simp⟩
  case round =>
    obtain ⟨cs, vs, v, kr, hs, hr, hck⟩ := hrel
    obtain ⟨c, hpc, hno, hyes⟩ := hr.next HSH.out
    have HI := Lib.hid (fun (wx : World) (hp : PkR wx b A cap l En kr) (hz : n ≤ wx.heap.size) => (HIN.out wx kr c hp hz hpc).mono (R' := fun e w' => ∃ K B N c1 f op m t k2, e = .returned (.agg (xC K (.slice B N c1) f op m t)) ∧ XIn (fun k => wx.heap.size ≤ k ∧ k < w'.heap.size) w' c.1 (xC K (.slice B N c1) f op m t) ∧ PkR w' b A cap l En k2 ∧ c.2 = (allT l En).drop k2 ∧ Fr n (fun i => i = b) wx w') (fun e w' h => by
      obtain ⟨v', k', rfl, ⟨xs, rfl, hx⟩, hp', he⟩ := h.res
      obtain ⟨K, B, N, c0, f, op, m, t, rfl⟩ := hx.form2
      exact ⟨K, B, N, c0, f, op, m, t, k', rfl, hx, hp', he, h.fr⟩))
    have HNO := Lib.hid hno
    have HYES := Lib.hid hyes
    have HPA := Lib.hid (pkAtR_of hs.pk)
    have HSC := Lib.hid (HSH.out _ _ hpc)
    have hml : cs.length ≤ 1000000 := by have := hs.pk.le; omega
    obtain ⟨A0, cp0, rfl, _⟩ := own_row hs.lst.own
    have HS := Lib.hid hs.drew
    have hpz : p0 < wr.heap.size := heap_lt hs.xbox
    have hgl := Lib.hid (fun g e => (hs.lst.own.lt g e).2)
    have hkl := hs.pk.le
    obtain ⟨x0, x1, x2, x3, x4, x5, xf, _⟩ := hs.cells
    clear hs hr hno hyes hpc
    go_upto_region 6 with fail
    go_region_law (first
      | (go_simp; go_at_call 115; (with_reducible refine (HI.out _ HS.out.pk HS.out.zle).mono ?_); rintro e w2 ⟨K, B, N, c1, f, op, m, t, k2, rfl, hx2, hp2, he2, hf2⟩; have HX2 := Lib.hid hx2; have HE2 := Lib.hid he2; have H20 := Lib.hid (HS.out.step hf2 hp2); have hz2 := hf2.size; obtain ⟨y0, y1, y2, y3, y4, y5, yf, _⟩ := H20.out.cells; clear hx2 hp2 he2 hf2; dsimp only)
      | (refine step_pour el_X (by rfl) (.tmp 16) (.tmp 20) (by rfl) (base := p0 + 1) (v := .slice A0 cs.length cp0) (n := cs.length) (xs := vs.flatMap (·.toList)) (H20.out.lst.own.alloc _) (by rfl) (A := some ⟨w2.heap.size, 0, none⟩) (m := 1) (c := 1) (news := [.int .u8 K, .slice B N c1, .string f, .string op, .int .i64 m, .string t]) (by rfl) (row_block (cs := #[.int .u8 K, .slice B N c1, .string f, .string op, .int .i64 m, .string t]) (heap_alloc_new w2 _)) (by rfl) (by simp [Value.oneCell']) (by intro h; cases h) (by omega) (by unfold maxLen; omega) (by simp; have := hz2; omega) ?_
         intro v4 w4 hown4 hg4 hat4
         obtain ⟨A4, c4, rfl, _⟩ := own_row hown4
         have HB4 := Lib.hid ((H20.out.low hg4 p0 (Nat.le_refl _)).trans H20.out.xbox)
         have hc4 : w4.cell? ⟨p0, 1, none⟩ = some (.slice A0 cs.length cp0) := by rw [Lib.cell_of_heap HB4.out]; rfl
         have hf4 : w4.frozen? ⟨p0, 1, none⟩ = false := Lib.frozen_of_heap HB4.out 1))
    all_goals
      have HS5 := Lib.hid (H20.out.push (c := c.1) (z1 := wr.heap.size) (by omega) hgl.out HX2.out hown4 hg4 hat4)
      clear hown4 hg4 hat4 HB4 hc4 hf4 y0 y1 y2 y3 y4 y5 yf x0 x1 x2 x3 x4 x5 xf hgl HX2 H20 HS HI
      generalize w4.setCell ⟨p0, 1, none⟩ (.slice A4 (cs.length + 1) c4) = W5 at *
      obtain ⟨_, _, _, q3, _, hbw5⟩ := HS5.out.pk.cells
      have hk2 := HS5.out.pk.le
      have HE := Lib.hid (rf_eat (n := n) HS5.out.pk HS5.out.zle hnb ⟨#[97, 110, 100]⟩)
      have HTW := Lib.hid (show toL ⟨#[97, 110, 100]⟩ = wAnd from rfl)
      rw [HTW.out, ← HE2.out] at HE
      cases hq : isT wAnd c.2 with
      | true =>
        rw [hq] at HE
        have HE3 := Lib.hid (HE.out.mono (R' := fun e w' => e = .returned (.bool true) ∧ Fr n (fun i => i = b) W5 w' ∧ PkR w' b A cap l En (k2 + 1)) (fun e w' h => ⟨h.ret, h.fr, h.pk⟩))
        have HR6 := Lib.hid (HYES.out hq)
        rw [HE2.out, List.tail_drop] at HR6
        clear hq HE
        go_wp2_with ((go_at_call 60; (with_reducible refine HE3.out.mono ?_); rintro e w6 ⟨rfl, hf6, hp6⟩; have HS6 := Lib.hid (HS5.out.step hf6 hp6); clear hf6 hp6))
        go_roundw
        case rel => exact ⟨cs ++ [c.1], _, _, k2 + 1, HS6.out, HR6.out, by have := HSC.out; simp only [HE2.out, List.length_drop, allT_length, List.length_append, List.length_cons, List.length_nil] at this ⊢; omega⟩
        case measure => rw [pkAtR_of HS6.out.pk, HPA.out]; have := HSC.out; simp only [HE2.out, List.length_drop, allT_length] at this; omega
      | false =>
        rw [hq] at HE
        have HE3 := Lib.hid (HE.out.mono (R' := fun e w' => e = .returned (.bool false) ∧ Fr n (fun i => i = b) W5 w' ∧ PkR w' b A cap l En k2) (fun e w' h => ⟨h.ret, h.fr, h.pk⟩))
        have HR6 := Lib.hid (HNO.out hq)
        rw [HE2.out] at HR6
        clear hq HE
        cases cs with
        | nil =>
          go_wp2_with ((go_at_call 60; (with_reducible refine HE3.out.mono ?_); rintro e w6 ⟨rfl, hf6, hp6⟩; have HS6 := Lib.hid (HS5.out.step hf6 hp6); obtain ⟨g6, cap6, K6, B6, N6, c6, f6, o6, m6, t6, hv6, hg6, hgz6, _, hx6, z0, z1, z2, z3, z4, z5⟩ := (show LstX (p0 + 1) _ [c.1] _ _ from HS6.out.lst).one; obtain ⟨rfl, rfl⟩ : A4 = some ⟨g6, 0, none⟩ ∧ c4 = cap6 := (by injection hv6 with e1 e2 e3; exact ⟨e1, e3⟩); have HX6 := Lib.hid hx6; obtain ⟨_, y1, _, _, _, _, _, _⟩ := HS6.out.cells; obtain ⟨d0, d1, d2, d3, d4, d5, hfd, hdw⟩ := xBox_cells HS6.out.rbox; have hpl : w.heap.size < p0 := (by have := HS6.out.pe; omega); clear hf6 hp6 hv6 hx6))
          rw [HR6.out]
          exact LxS.ret HS6.out HX6.out rfl rfl
        | cons c0 cs =>
          have hn1 : (((cs.length + 1 + 1 : Nat) : Int) == 1) = false := beq_eq_false_iff_ne.2 (by omega)
          go_wp2_with ((go_at_call 60; (with_reducible refine HE3.out.mono ?_); rintro e w6 ⟨rfl, hf6, hp6⟩; have HS6 := Lib.hid (HS5.out.step hf6 hp6); obtain ⟨y0, y1, y2, y3, y4, y5, _, _⟩ := HS6.out.cells; obtain ⟨d0, d1, d2, d3, d4, d5, hfd, hdw⟩ := xBox_cells HS6.out.rbox; have hpl : w.heap.size < p0 := (by have := HS6.out.pe; omega); clear hf6 hp6))
          obtain ⟨g6, cap6, hv6, hg6, hgz6, _⟩ := HS6.out.lst.row (by simp)
          obtain ⟨rfl, rfl⟩ : A4 = some ⟨g6, 0, none⟩ ∧ c4 = cap6 := by injection hv6 with e1 e2 e3; exact ⟨e1, e3⟩
          have hx6 := (show LstX (p0 + 1) (.slice (some ⟨g6, 0, none⟩) (c0 :: cs ++ [c.1]).length c4) _ _ _ from hv6 ▸ HS6.out.lst).both hg6 hgz6 (by simp) (by simp only [List.length_append, List.length_cons, List.length_nil] at hml ⊢; omega)
          rw [HR6.out, joinX_more _ _ (by simp)]
          have e6 : (c0 :: cs ++ [c.1]).length = (c0 :: cs).length + 1 := by simp
          rw [e6] at hx6
          exact LxS.ret HS6.out hx6 rfl rfl
set_option maxHeartbeats 8000000 in
set_option maxRecDepth 100000 in
theorem rf_list_or {n : Nat} {w : World} {b : Nat} {A : Option Addr} {cap k En : Nat} {l : List RT} (h : PkR w b A cap l En k) (hn : n ≤ w.heap.size) (hnb : n ≤ b) (d : Int) {p : Pr Cond} (hsh : Sh p)
    (hin : ∀ (wx : World) (kx : Nat) (a : Cond × List Tok), PkR wx b A cap l En kx → n ≤ wx.heap.size → p ((allT l En).drop kx) = .ok a → Calls Tryz.prog 92 #[.pointer (some ⟨b, 0, none⟩), .int .u8 97, .int .i64 d] wx (PrR (xP wx.heap.size) n b A cap l En a wx))
    {a : Cond × List Tok} (ha : listC wOr .either p ((allT l En).drop k) = .ok a) :
    Calls Tryz.prog 92 #[.pointer (some ⟨b, 0, none⟩), .int .u8 111, .int .i64 d] w (PrR (xP w.heap.size) n b A cap l En a w) := by
  have HIN := Lib.hid hin; clear hin
  have HSH := Lib.hid hsh; clear hsh
  have hbw := h.cells.2.2.2.2.2
  have hfew := h.few
  have HX0 := Lib.hid (heap_alloc_new w (.cells xZ 57))
  have HB0 := Lib.hid (alloc_bel w (.cells xZ 57))
  have HA := Lib.hid (RestX.first ha)
  have HP0 := Lib.hid (h.below HB0.out)
  have hz0 : (w.alloc (.cells xZ 57)).heap.size = w.heap.size + 1 := by simp
  clear h ha
  go_enter Tryz.func92, Tryz.ntmps92
  go_upto_region 1 with fail
  generalize w.alloc (.cells xZ 57) = W0 at *
  have HS0 := Lib.hid (show LxS n b A cap l En 111 w W0.heap.size [] [] (.slice none 0 0) k (W0.alloc (.cells (xC 111 (.slice none 0 0) ⟨#[]⟩ ⟨#[]⟩ 0 ⟨#[]⟩) 57)) from
    ⟨HP0.out.below (alloc_bel _ _), Fr.of (HB0.out.trans ((alloc_bel W0 _).mono (by omega))) hn, ((alloc_bel W0 _).block _ (by omega)).trans HX0.out, alloc_at W0 _ _ rfl, LstX.nil _ _, hbw, hn, hz0⟩)
  have HZ0 := Lib.hid hz0
  clear hz0
  go_upto_region 5 with fail
  generalize W0.alloc (.cells (xC 111 (.slice none 0 0) ⟨#[]⟩ ⟨#[]⟩ 0 ⟨#[]⟩) 57) = W1 at *
  clear HX0 HB0 HP0
  generalize W0.heap.size = p0 at *
  go_loopw [14] (fun _ wr => ∃ (cs : List Cond) (vs : List (Array Value)) (v : Value) (kr : Nat), LxS n b A cap l En 111 w p0 cs vs v kr wr ∧ RestX wOr .either p cs ((allT l En).drop kr) a ∧ cs.length ≤ kr)
    (fun _ wr => l.length + 1 - pkAtR wr b)
  case atStart => exact ⟨[], [], _, k, HS0.out, HA.out, by simp⟩
  case round =>
    obtain ⟨cs, vs, v, kr, hs, hr, hck⟩ := hrel
    obtain ⟨c, hpc, hno, hyes⟩ := hr.next HSH.out
    have HI := Lib.hid (fun (wx : World) (hp : PkR wx b A cap l En kr) (hz : n ≤ wx.heap.size) => (HIN.out wx kr c hp hz hpc).mono (R' := fun e w' => ∃ K B N c1 f op m t k2, e = .returned (.agg (xC K (.slice B N c1) f op m t)) ∧ XIn (fun k => wx.heap.size ≤ k ∧ k < w'.heap.size) w' c.1 (xC K (.slice B N c1) f op m t) ∧ PkR w' b A cap l En k2 ∧ c.2 = (allT l En).drop k2 ∧ Fr n (fun i => i = b) wx w') (fun e w' h => by
      obtain ⟨v', k', rfl, ⟨xs, rfl, hx⟩, hp', he⟩ := h.res
      obtain ⟨K, B, N, c0, f, op, m, t, rfl⟩ := hx.form2
      exact ⟨K, B, N, c0, f, op, m, t, k', rfl, hx, hp', he, h.fr⟩))
    have HNO := Lib.hid hno
    have HYES := Lib.hid hyes
    have HPA := Lib.hid (pkAtR_of hs.pk)
    have HSC := Lib.hid (HSH.out _ _ hpc)
    have hml : cs.length ≤ 1000000 := by have := hs.pk.le; omega
    obtain ⟨A0, cp0, rfl, _⟩ := own_row hs.lst.own
    have HS := Lib.hid hs.drew
    have hpz : p0 < wr.heap.size := heap_lt hs.xbox
    have hgl := Lib.hid (fun g e => (hs.lst.own.lt g e).2)
    have hkl := hs.pk.le
    obtain ⟨x0, x1, x2, x3, x4, x5, xf, _⟩ := hs.cells
    clear hs hr hno hyes hpc
    go_upto_region 7 with fail
    go_region_law (first
      | (go_simp; go_at_call 92; (with_reducible refine (HI.out _ HS.out.pk HS.out.zle).mono ?_); rintro e w2 ⟨K, B, N, c1, f, op, m, t, k2, rfl, hx2, hp2, he2, hf2⟩; have HX2 := Lib.hid hx2; have HE2 := Lib.hid he2; have H28 := Lib.hid (HS.out.step hf2 hp2); have hz2 := hf2.size; obtain ⟨y0, y1, y2, y3, y4, y5, yf, _⟩ := H28.out.cells; clear hx2 hp2 he2 hf2; dsimp only)
      | (refine step_pour el_X (by rfl) (.tmp 24) (.tmp 28) (by rfl) (base := p0 + 1) (v := .slice A0 cs.length cp0) (n := cs.length) (xs := vs.flatMap (·.toList)) (H28.out.lst.own.alloc _) (by rfl) (A := some ⟨w2.heap.size, 0, none⟩) (m := 1) (c := 1) (news := [.int .u8 K, .slice B N c1, .string f, .string op, .int .i64 m, .string t]) (by rfl) (row_block (cs := #[.int .u8 K, .slice B N c1, .string f, .string op, .int .i64 m, .string t]) (heap_alloc_new w2 _)) (by rfl) (by simp [Value.oneCell']) (by intro h; cases h) (by omega) (by unfold maxLen; omega) (by simp; have := hz2; omega) ?_
         intro v4 w4 hown4 hg4 hat4
         obtain ⟨A4, c4, rfl, _⟩ := own_row hown4
         have HB4 := Lib.hid ((H28.out.low hg4 p0 (Nat.le_refl _)).trans H28.out.xbox)
         have hc4 : w4.cell? ⟨p0, 1, none⟩ = some (.slice A0 cs.length cp0) := by rw [Lib.cell_of_heap HB4.out]; rfl
         have hf4 : w4.frozen? ⟨p0, 1, none⟩ = false := Lib.frozen_of_heap HB4.out 1))
    all_goals
      have HS5 := Lib.hid (H28.out.push (c := c.1) (z1 := wr.heap.size) (by omega) hgl.out HX2.out hown4 hg4 hat4)
      clear hown4 hg4 hat4 HB4 hc4 hf4 y0 y1 y2 y3 y4 y5 yf x0 x1 x2 x3 x4 x5 xf hgl HX2 H28 HS HI
      generalize w4.setCell ⟨p0, 1, none⟩ (.slice A4 (cs.length + 1) c4) = W5 at *
      obtain ⟨_, _, _, q3, _, hbw5⟩ := HS5.out.pk.cells
      have hk2 := HS5.out.pk.le
      have HE := Lib.hid (rf_eat (n := n) HS5.out.pk HS5.out.zle hnb ⟨#[111, 114]⟩)
      have HTW := Lib.hid (show toL ⟨#[111, 114]⟩ = wOr from rfl)
      rw [HTW.out, ← HE2.out] at HE
      cases hq : isT wOr c.2 with
      | true =>
        rw [hq] at HE
        have HE3 := Lib.hid (HE.out.mono (R' := fun e w' => e = .returned (.bool true) ∧ Fr n (fun i => i = b) W5 w' ∧ PkR w' b A cap l En (k2 + 1)) (fun e w' h => ⟨h.ret, h.fr, h.pk⟩))
        have HR6 := Lib.hid (HYES.out hq)
        rw [HE2.out, List.tail_drop] at HR6
        clear hq HE
        go_wp2_with ((go_at_call 60; (with_reducible refine HE3.out.mono ?_); rintro e w6 ⟨rfl, hf6, hp6⟩; have HS6 := Lib.hid (HS5.out.step hf6 hp6); clear hf6 hp6))
        go_roundw
        case rel => exact ⟨cs ++ [c.1], _, _, k2 + 1, HS6.out, HR6.out, by have := HSC.out; simp only [HE2.out, List.length_drop, allT_length, List.length_append, List.length_cons, List.length_nil] at this ⊢; omega⟩
        case measure => rw [pkAtR_of HS6.out.pk, HPA.out]; have := HSC.out; simp only [HE2.out, List.length_drop, allT_length] at this; omega
      | false =>
        rw [hq] at HE
        have HE3 := Lib.hid (HE.out.mono (R' := fun e w' => e = .returned (.bool false) ∧ Fr n (fun i => i = b) W5 w' ∧ PkR w' b A cap l En k2) (fun e w' h => ⟨h.ret, h.fr, h.pk⟩))
        have HR6 := Lib.hid (HNO.out hq)
        rw [HE2.out] at HR6
        clear hq HE
        cases cs with
        | nil =>
          go_wp2_with ((go_at_call 60; (with_reducible refine HE3.out.mono ?_); rintro e w6 ⟨rfl, hf6, hp6⟩; have HS6 := Lib.hid (HS5.out.step hf6 hp6); obtain ⟨g6, cap6, K6, B6, N6, c6, f6, o6, m6, t6, hv6, hg6, hgz6, _, hx6, z0, z1, z2, z3, z4, z5⟩ := (show LstX (p0 + 1) _ [c.1] _ _ from HS6.out.lst).one; obtain ⟨rfl, rfl⟩ : A4 = some ⟨g6, 0, none⟩ ∧ c4 = cap6 := (by injection hv6 with e1 e2 e3; exact ⟨e1, e3⟩); have HX6 := Lib.hid hx6; obtain ⟨_, y1, _, _, _, _, _, _⟩ := HS6.out.cells; obtain ⟨d0, d1, d2, d3, d4, d5, hfd, hdw⟩ := xBox_cells HS6.out.rbox; have hpl : w.heap.size < p0 := (by have := HS6.out.pe; omega); clear hf6 hp6 hv6 hx6))
          rw [HR6.out]
          exact LxS.ret HS6.out HX6.out rfl rfl
        | cons c0 cs =>
          have hn1 : (((cs.length + 1 + 1 : Nat) : Int) == 1) = false := beq_eq_false_iff_ne.2 (by omega)
          go_wp2_with ((go_at_call 60; (with_reducible refine HE3.out.mono ?_); rintro e w6 ⟨rfl, hf6, hp6⟩; have HS6 := Lib.hid (HS5.out.step hf6 hp6); obtain ⟨y0, y1, y2, y3, y4, y5, _, _⟩ := HS6.out.cells; obtain ⟨d0, d1, d2, d3, d4, d5, hfd, hdw⟩ := xBox_cells HS6.out.rbox; have hpl : w.heap.size < p0 := (by have := HS6.out.pe; omega); clear hf6 hp6))
          obtain ⟨g6, cap6, hv6, hg6, hgz6, _⟩ := HS6.out.lst.row (by simp)
          obtain ⟨rfl, rfl⟩ : A4 = some ⟨g6, 0, none⟩ ∧ c4 = cap6 := by injection hv6 with e1 e2 e3; exact ⟨e1, e3⟩
          have hx6 := (show LstX (p0 + 1) (.slice (some ⟨g6, 0, none⟩) (c0 :: cs ++ [c.1]).length c4) _ _ _ from hv6 ▸ HS6.out.lst).either hg6 hgz6 (by simp) (by simp only [List.length_append, List.length_cons, List.length_nil] at hml ⊢; omega)
          rw [HR6.out, joinX_more _ _ (by simp)]
          have e6 : (c0 :: cs ++ [c.1]).length = (c0 :: cs).length + 1 := by simp
          rw [e6] at hx6
          exact LxS.ret HS6.out hx6 rfl rfl
structure SgS(n b:Nat)(A:Option Addr)(cap:Nat)(l:List RT)(En:Nat)(w:World)(k:Nat)(W:World):Prop where
 pk:PkR W b A cap l En k
 fr:Fr n (fun i=>i=b) w W
 rbox:W.heap[w.heap.size]?=some (.cells xZ 57 (0,0))
 bl:b<w.heap.size
 nz:n<=w.heap.size
section
variable {n b : Nat} {A : Option Addr} {cap : Nat} {l : List RT} {En : Nat} {w : World} {k : Nat} {W W' : World}
theorem SgS.step(h:SgS n b A cap l En w k W)(hf:Fr n (fun i=>i=b) W W'){k':Nat}(hp:PkR W' b A cap l En k'):SgS n b A cap l En w k' W' :=
 ⟨hp,h.fr.trans hf (fun i hi=>.inl hi),(hf.oth _ (heap_lt h.rbox) (by have:=h.bl;omega)).trans h.rbox,h.bl,h.nz⟩
theorem SgS.below(h:SgS n b A cap l En w k W)(hb:Below W.heap.size W W'):SgS n b A cap l En w k W' :=
 h.step (Fr.of hb (by have:=h.fr.size;have:=h.nz;omega)) (h.pk.below hb)
theorem SgS.zle(h:SgS n b A cap l En w k W):n<=W.heap.size:=by have:=h.fr.size;have:=h.nz;omega
theorem SgS.start(h:PkR w b A cap l En k)(hn:n<=w.heap.size):SgS n b A cap l En w k (w.alloc (.cells xZ 57)) :=
 ⟨h.below (alloc_bel _ _),Fr.of (alloc_bel _ _) hn,heap_alloc_new _ _,h.cells.2.2.2.2.2,hn⟩
theorem sgl_ret{Q:Ending->World->Prop}{W:World}{r:Nat}{k:Int}{L:Value}{f op:ByteArray}{m:Int}{t:ByteArray}{T:Array Value}(hb:W.heap[r]?=some (.cells (xC k L f op m t) 57 (0,0)))
  (hT2:T[4]?=some (.pointer (some ⟨r,0,none⟩))) (hQ:Q (.returned (.agg (xC k L f op m t))) W) :
  bodyPost Tryz.prog Tryz.f115 Q .ret { tmps:=T,defers := [] } W:=by
 obtain⟨c0,c1,c2,c3,c4,c5,_,_⟩:=xBox_cells hb
 refine bodyPost_ret (v:=.agg (xC k L f op m t)) ?_ rfl hQ
 simp[results,Tryz.f115,go_sem,hT2,c0,c1,c2,c3,c4,c5]
theorem SgS.ret(h:SgS n b A cap l En w k W){z:Nat}{kk:Int}{L:Value}{f op:ByteArray}{m:Int}{t:ByteArray}{T:Array Value}{c:Cond}{r:List Tok}(hx:XIn (fun k=>z<=k/\k<W.heap.size) W c (xC kk L f op m t))(hz:w.heap.size<z)(hr:r=(allT l En).drop k)
  (hT2:T[4]?=some (.pointer (some ⟨w.heap.size,0,none⟩))):bodyPost Tryz.prog Tryz.f115 (PrR (xP w.heap.size) n b A cap l En (c,r) w) .ret { tmps:=T,defers := [] } (putX w.heap.size kk L f op m t W) :=
 sgl_ret (putX_box h.rbox) hT2 ⟨putX_fr h.fr h.nz (.inr (Nat.le_refl _)),_,k,rfl,⟨_,rfl,hx.put hz⟩,putX_pk h.pk h.bl,hr⟩
theorem cnd_ret{Q:Ending->World->Prop}{W:World}{r:Nat}{k:Int}{L:Value}{f op:ByteArray}{m:Int}{t:ByteArray}{T:Array Value}(hb:W.heap[r]?=some (.cells (xC k L f op m t) 57 (0,0)))
  (hT2:T[4]?=some (.pointer (some ⟨r,0,none⟩))) (hQ:Q (.returned (.agg (xC k L f op m t))) W) :
  bodyPost Tryz.prog Tryz.f62 Q .ret { tmps:=T,defers := [] } W:=by
 obtain⟨c0,c1,c2,c3,c4,c5,_,_⟩:=xBox_cells hb
 refine bodyPost_ret (v:=.agg (xC k L f op m t)) ?_ rfl hQ
 simp[results,Tryz.f62,go_sem,hT2,c0,c1,c2,c3,c4,c5]
theorem SgS.retC(h:SgS n b A cap l En w k W){z:Nat}{kk:Int}{L:Value}{f op:ByteArray}{m:Int}{t:ByteArray}{T:Array Value}{c:Cond}{r:List Tok}(hx:XIn (fun k=>z<=k/\k<W.heap.size) W c (xC kk L f op m t))(hz:w.heap.size<z)(hr:r=(allT l En).drop k)
  (hT2:T[4]?=some (.pointer (some ⟨w.heap.size,0,none⟩))):bodyPost Tryz.prog Tryz.f62 (PrR (xP w.heap.size) n b A cap l En (c,r) w) .ret { tmps:=T,defers := [] } (putX w.heap.size kk L f op m t W) :=
 cnd_ret (putX_box h.rbox) hT2 ⟨putX_fr h.fr h.nz (.inr (Nat.le_refl _)),_,k,rfl,⟨_,rfl,hx.put hz⟩,putX_pk h.pk h.bl,hr⟩
end
def CndX(n b:Nat)(A:Option Addr)(cap:Nat)(l:List RT)(En:Nat)(a:Cond × List Tok)(w:World)(e:Ending)(w':World):Prop :=
 ∃K B N c1 f op m t k2,e=.returned (.agg (xC K (.slice B N c1) f op m t))/\XIn (fun k=>w.heap.size<=k/\k<w'.heap.size) w' a.1 (xC K (.slice B N c1) f op m t)/\PkR w' b A cap l En k2/\a.2=(allT l En).drop k2/\Fr n (fun i=>i=b) w w'
theorem CndX.of{n b:Nat}{A:Option Addr}{cap:Nat}{l:List RT}{En:Nat}{a:Cond × List Tok}{w:World}{e:Ending}{w':World}(h:PrR (xP w.heap.size) n b A cap l En a w e w'):CndX n b A cap l En a w e w':=by
 obtain⟨v',k',rfl,⟨xs,rfl,hx⟩,hp',he⟩:=h.res
 obtain⟨K,B,N,c0,f,op,m,t,rfl⟩:=hx.form2
 exact⟨K,B,N,c0,f,op,m,t,k',rfl,hx,hp',he,h.fr⟩
set_option maxHeartbeats 4000000 in
set_option maxRecDepth 100000 in
theorem rf_condition{n:Nat}{w:World}{b:Nat}{A:Option Addr}{cap k En:Nat}{l:List RT}(h:PkR w b A cap l En k)(hn:n<=w.heap.size)(hnb:n<=b)(d:Int){a:Cond × List Tok}
  (hin:∀(wx:World),PkR wx b A cap l En k->n<=wx.heap.size->Calls Tryz.prog 92 #[.pointer (some ⟨b,0,none⟩),.int .u8 111,.int .i64 d] wx (PrR (xP wx.heap.size) n b A cap l En a wx)) :
  Calls Tryz.prog 62 #[.pointer (some ⟨b,0,none⟩),.int .i64 d] w (PrR (xP w.heap.size) n b A cap l En a w):=by
 have HS0:=Lib.hid (SgS.start (n:=n) h hn)
 have hz0:(w.alloc (.cells xZ 57)).heap.size=w.heap.size+1:=by simp
 have HI:=Lib.hid (fun (wx:World) (hp:PkR wx b A cap l En k) (hz:n<=wx.heap.size)=>(hin wx hp hz).mono (fun e w' h=>CndX.of h))
 clear h hin
 go_enter Tryz.func62,Tryz.ntmps62
 go_upto_region 1 with fail
 generalize w.alloc (.cells xZ 57)=W0 at *
 go_wp2_with ((go_at_call 92;(with_reducible refine(HI.out _ HS0.out.pk HS0.out.zle).mono ?_);rintro e w2 ⟨K,B,N,c1,f,op,m,t,k2,rfl,hx2,hp2,he2,hf2⟩;have HX2:=Lib.hid hx2;have HE2:=Lib.hid he2;have HS2:=Lib.hid (HS0.out.step hf2 hp2);obtain⟨d0,d1,d2,d3,d4,d5,hfd,hdw⟩:=xBox_cells HS2.out.rbox;clear hx2 hp2 he2 hf2))
 obtain⟨a1,a2⟩:=a
 exact SgS.retC HS2.out HX2.out (by omega) HE2.out rfl
theorem singleF_ok{m:Nat}{ts:List Tok}{a:Cond × List Tok}(h:singleF m ts=.ok a) :
  (isT wNot ts=false/\isT yLp ts=false/\testF ts=.ok a) ∨
  (∃m' c,m=m'+1/\isT wNot ts=true/\singleF m' ts.tail=.ok c/\a=(.neg c.1,c.2)) ∨
  (∃m' c y,m=m'+1/\isT wNot ts=false/\isT yLp ts=true/\condF m' ts.tail=.ok c/\oneF [yRp] c.2=.ok y/\a=(c.1,y.2)):=by
 cases h1:isT wNot ts with
 | true =>
  cases m with
  | zero=>rw[singleF_full (.inl h1)]at h;cases h
  | succ m =>
   rw[singleF_not h1]at h
   obtain⟨c,e1,h⟩:=bindE_ok h
   injection h with h
   exact .inr (.inl ⟨m,c,rfl,rfl,e1,h.symm⟩)
 | false =>
  cases h2:isT yLp ts with
  | true =>
   cases m with
   | zero=>rw[singleF_full (.inr h2)]at h;cases h
   | succ m =>
    rw[singleF_par h1 h2]at h
    obtain⟨c,e1,h⟩:=bindE_ok h
    obtain⟨y,e2,h⟩:=bindE_ok h
    injection h with h
    exact .inr (.inr ⟨m,c,y,rfl,rfl,rfl,e1,e2,h.symm⟩)
  | false =>
   rw[singleF_test h1 h2]at h
   exact .inl ⟨rfl,rfl,h⟩
theorem isR_at{w:World}{b:Nat}{A:Option Addr}{cap k En:Nat}{l:List RT}(h:PkR w b A cap l En k)(x:ByteArray)(y:Bs)(hxy:toL x=y){q:Bool}(hq:isT y ((allT l En).drop k)=q):Calls Tryz.prog 91 #[.pointer (some ⟨b,0,none⟩),.string x] w fun e w'=>e=.returned (.bool q)/\Below w.heap.size w w':=by
 have:=rf_is h x
 rwa [hxy,hq]at this
theorem eatR_yes{n:Nat}{w:World}{b:Nat}{A:Option Addr}{cap k En:Nat}{l:List RT}(h:PkR w b A cap l En k)(hn:n<=w.heap.size)(hnb:n<=b)(x:ByteArray)(y:Bs)(hxy:toL x=y)(hq:isT y ((allT l En).drop k)=true):Calls Tryz.prog 60 #[.pointer (some ⟨b,0,none⟩),.string x] w fun e w'=>e=.returned (.bool true)/\Fr n (fun i=>i=b) w w'/\PkR w' b A cap l En (k+1):=by
 have:=rf_eat h hn hnb x
 rw[hxy,hq]at this
 exact this.mono fun e w' h=>⟨h.ret,h.fr,h.pk⟩
theorem eatR_no{n:Nat}{w:World}{b:Nat}{A:Option Addr}{cap k En:Nat}{l:List RT}(h:PkR w b A cap l En k)(hn:n<=w.heap.size)(hnb:n<=b)(x:ByteArray)(y:Bs)(hxy:toL x=y)(hq:isT y ((allT l En).drop k)=false):Calls Tryz.prog 60 #[.pointer (some ⟨b,0,none⟩),.string x] w fun e w'=>e=.returned (.bool false)/\Fr n (fun i=>i=b) w w'/\PkR w' b A cap l En k:=by
 have:=rf_eat h hn hnb x
 rw[hxy,hq]at this
 exact this.mono fun e w' h=>⟨h.ret,h.fr,h.pk⟩
theorem seeR_at{b:Nat}{A:Option Addr}{cap k En:Nat}{l:List RT} : ∃K X N C,C=((seeT l En k).1.col:Int)/\∀wx,PkR wx b A cap l En k->Calls Tryz.prog 64 #[.pointer (some ⟨b,0,none⟩)] wx fun e w'=>e=.returned (.agg #[.int .u8 K,.string X,.int .i64 N,.int .i64 C])/\Below wx.heap.size wx w' :=
 ⟨_,_,_,_,rfl,fun wx h=>rf_see h⟩
set_option maxHeartbeats 4000000 in
set_option maxRecDepth 100000 in
theorem rf_single_test{n:Nat}{w:World}{b:Nat}{A:Option Addr}{cap k En:Nat}{l:List RT}(h:PkR w b A cap l En k)(hn:n<=w.heap.size)(hnb:n<=b)(d:Int){a:Cond × List Tok}(h1:isT wNot ((allT l En).drop k)=false)(h2:isT yLp ((allT l En).drop k)=false)(ha:testF ((allT l En).drop k)=.ok a) :
  Calls Tryz.prog 115 #[.pointer (some ⟨b,0,none⟩),.int .i64 d] w (PrR (xP w.heap.size) n b A cap l En a w):=by
 have HS0:=Lib.hid (SgS.start (n:=n) h hn)
 have hbw:=HS0.out.bl
 obtain⟨K,X,N,C,-,hsee⟩:=seeR_at (b:=b) (A:=A) (cap:=cap) (k:=k) (En:=En) (l:=l)
 have HN:=Lib.hid hsee
 have HI1:=Lib.hid (fun (wx:World) (hp:PkR wx b A cap l En k)=>isR_at hp ⟨#[110,111,116]⟩ wNot rfl h1)
 have HI2:=Lib.hid (fun (wx:World) (hp:PkR wx b A cap l En k)=>isR_at hp ⟨#[40]⟩ yLp rfl h2)
 have HT:=Lib.hid (fun (wx:World) (hp:PkR wx b A cap l En k) (hz:n<=wx.heap.size)=>(rf_test hp hz hnb ha).mono (fun e w' h=>CndX.of h))
 have hz0:(w.alloc (.cells xZ 57)).heap.size=w.heap.size+1:=by simp
 clear h hsee h1 h2 ha
 go_enter Tryz.func115,Tryz.ntmps115
 go_upto_region 1 with fail
 generalize w.alloc (.cells xZ 57)=W0 at *
 go_wp2_with (first
  | (go_at_call 64;(with_reducible refine(HN.out _ HS0.out.pk).mono ?_);rintro e w1 ⟨rfl,hb1⟩;have HS1:=Lib.hid (HS0.out.below (hb1.alloc hb1.size (.cells #[.int .u8 K,.string X,.int .i64 N,.int .i64 C] 98)));clear hb1)
  | (go_at_call 91;(with_reducible refine(HI1.out _ HS1.out.pk).mono ?_);rintro e w2 ⟨rfl,hb2⟩;have HS2:=Lib.hid (HS1.out.below hb2);clear hb2)
  | (go_at_call 91;(with_reducible refine(HI2.out _ HS2.out.pk).mono ?_);rintro e w3 ⟨rfl,hb3⟩;have HS3:=Lib.hid (HS2.out.below hb3);have hz3:=HS3.out.fr.size;have hl3:=heap_lt HS3.out.rbox;clear hb3)
  | (go_at_call 132;(with_reducible refine(HT.out _ HS3.out.pk HS3.out.zle).mono ?_);rintro e w4 ⟨K4,B,N4,c1,f,op,m,t,k2,rfl,hx2,hp2,he2,hf2⟩;have HX2:=Lib.hid hx2;have HE2:=Lib.hid he2;have HS4:=Lib.hid (HS3.out.step hf2 hp2);obtain⟨d0,d1,d2,d3,d4,d5,hfd,hdw⟩:=xBox_cells HS4.out.rbox;clear hx2 hp2 he2 hf2))
 obtain⟨a1,a2⟩:=a
 exact SgS.ret HS4.out HX2.out hl3 HE2.out rfl
set_option maxHeartbeats 4000000 in
set_option maxRecDepth 100000 in
theorem rf_single_not{n:Nat}{w:World}{b:Nat}{A:Option Addr}{cap k En:Nat}{l:List RT}(h:PkR w b A cap l En k)(hn:n<=w.heap.size)(hnb:n<=b)(d:Int)(hd0:0<=d)(hd:d<32){c:Cond × List Tok}(h1:isT wNot ((allT l En).drop k)=true)
  (hin:∀(wx:World),PkR wx b A cap l En (k+1)->n<=wx.heap.size->Calls Tryz.prog 115 #[.pointer (some ⟨b,0,none⟩),.int .i64 (d+1)] wx (PrR (xP wx.heap.size) n b A cap l En c wx)) :
  Calls Tryz.prog 115 #[.pointer (some ⟨b,0,none⟩),.int .i64 d] w (PrR (xP w.heap.size) n b A cap l En (.neg c.1,c.2) w):=by
 have HS0:=Lib.hid (SgS.start (n:=n) h hn)
 have hbw:=HS0.out.bl
 obtain⟨K,X,N,C,-,hsee⟩:=seeR_at (b:=b) (A:=A) (cap:=cap) (k:=k) (En:=En) (l:=l)
 have HN:=Lib.hid hsee
 have HI1:=Lib.hid (fun (wx:World) (hp:PkR wx b A cap l En k)=>isR_at hp ⟨#[110,111,116]⟩ wNot rfl h1)
 have HET:=Lib.hid (fun (wx:World) (hp:PkR wx b A cap l En k) (hz:n<=wx.heap.size)=>eatR_yes hp hz hnb ⟨#[110,111,116]⟩ wNot rfl h1)
 have HT:=Lib.hid (fun (wx:World) (hp:PkR wx b A cap l En (k+1)) (hz:n<=wx.heap.size)=>(hin wx hp hz).mono (fun e w' h=>CndX.of h))
 have hz0:(w.alloc (.cells xZ 57)).heap.size=w.heap.size+1:=by simp
 have y1:IntKind.i64.wrap (d+1)=d+1:=IntWalk.i64_in _ (by omega)
 clear h hsee h1 hin
 go_enter Tryz.func115,Tryz.ntmps115
 go_upto_region 1 with fail
 generalize w.alloc (.cells xZ 57)=W0 at *
 go_wp2_with (first
  | (go_at_call 64;(with_reducible refine(HN.out _ HS0.out.pk).mono ?_);rintro e w1 ⟨rfl,hb1⟩;have HS1:=Lib.hid (HS0.out.below (hb1.alloc hb1.size (.cells #[.int .u8 K,.string X,.int .i64 N,.int .i64 C] 98)));clear hb1)
  | (go_at_call 91;(with_reducible refine(HI1.out _ HS1.out.pk).mono ?_);rintro e w2 ⟨rfl,hb2⟩;have HS2:=Lib.hid (HS1.out.below hb2);clear hb2)
  | (go_at_call 60;(with_reducible refine(HET.out _ HS2.out.pk HS2.out.zle).mono ?_);rintro e w3 ⟨rfl,hf3,hp3⟩;have HS3:=Lib.hid (HS2.out.step hf3 hp3);have hz3:=HS3.out.fr.size;have hl3:=heap_lt HS3.out.rbox;clear hf3 hp3)
  | (go_at_call 115;(with_reducible refine(HT.out _ HS3.out.pk HS3.out.zle).mono ?_);rintro e w4 ⟨K4,B,N4,c1,f,op,m,t,k2,rfl,hx2,hp2,he2,hf2⟩;have HX2:=Lib.hid hx2;have HE2:=Lib.hid he2;have HS4:=Lib.hid (HS3.out.step hf2 hp2);have HS5:=Lib.hid (HS4.out.below (alloc_bel w4 (.cells (xC K4 (.slice B N4 c1) f op m t) 57)));have hz4:=hf2.size;obtain⟨d0,d1,d2,d3,d4,d5,hfd,hdw⟩:=xBox_cells HS5.out.rbox;clear hx2 hp2 he2 hf2))
 have HR5:=Lib.hid (row_block (heap_alloc_new w4 (.cells (xC K4 (.slice B N4 c1) f op m t) 57)))
 have HB5:=Lib.hid (alloc_bel w4 (.cells (xC K4 (.slice B N4 c1) f op m t) 57))
 have hx5:XIn (fun k=>w3.heap.size<=k/\k<(w4.alloc (.cells (xC K4 (.slice B N4 c1) f op m t) 57)).heap.size) (w4.alloc (.cells (xC K4 (.slice B N4 c1) f op m t) 57)) (.neg c.1) (xC 110 (.slice (some ⟨w4.heap.size,0,none⟩) 1 1) ⟨#[]⟩ ⟨#[]⟩ 0 ⟨#[]⟩) :=
  XIn.neg ⟨by omega,by simp⟩ HR5.out ((HX2.out.keep (fun k hk=>HB5.out.block k hk.2) HB5.out.size).mono fun k hk=>⟨hk.1,Nat.lt_of_lt_of_le hk.2 HB5.out.size⟩)
 exact SgS.ret HS5.out hx5 hl3 HE2.out rfl
abbrev A1r:Array Value:=#[.string ⟨#[41]⟩]
theorem row_A1r(w:World)(t:TypeId):Row (w.alloc (.cells A1r t)) (some ⟨w.heap.size,0,none⟩) (strsL rpL):=row_block (heap_alloc_new w (.cells A1r t))
set_option maxHeartbeats 4000000 in
set_option maxRecDepth 100000 in
theorem rf_single_par{n:Nat}{w:World}{b:Nat}{A:Option Addr}{cap k En:Nat}{l:List RT}(h:PkR w b A cap l En k)(hn:n<=w.heap.size)(hnb:n<=b)(d:Int)(hd0:0<=d)(hd:d<32){c:Cond × List Tok}{y:Bs × List Tok}(h1:isT wNot ((allT l En).drop k)=false)(h2:isT yLp ((allT l En).drop k)=true)(h3:oneF rpL c.2=.ok y)
  (hin:∀(wx:World),PkR wx b A cap l En (k+1)->n<=wx.heap.size->Calls Tryz.prog 62 #[.pointer (some ⟨b,0,none⟩),.int .i64 (d+1)] wx (PrR (xP wx.heap.size) n b A cap l En c wx)) :
  Calls Tryz.prog 115 #[.pointer (some ⟨b,0,none⟩),.int .i64 d] w (PrR (xP w.heap.size) n b A cap l En (c.1,y.2) w):=by
 have HS0:=Lib.hid (SgS.start (n:=n) h hn)
 have hbw:=HS0.out.bl
 obtain⟨K,X,N,C,-,hsee⟩:=seeR_at (b:=b) (A:=A) (cap:=cap) (k:=k) (En:=En) (l:=l)
 have HN:=Lib.hid hsee
 have HI1:=Lib.hid (fun (wx:World) (hp:PkR wx b A cap l En k)=>isR_at hp ⟨#[110,111,116]⟩ wNot rfl h1)
 have HI2:=Lib.hid (fun (wx:World) (hp:PkR wx b A cap l En k)=>isR_at hp ⟨#[40]⟩ yLp rfl h2)
 have HET:=Lib.hid (fun (wx:World) (hp:PkR wx b A cap l En k) (hz:n<=wx.heap.size)=>eatR_no hp hz hnb ⟨#[110,111,116]⟩ wNot rfl h1)
 have HEP:=Lib.hid (fun (wx:World) (hp:PkR wx b A cap l En k) (hz:n<=wx.heap.size)=>eatR_yes hp hz hnb ⟨#[40]⟩ yLp rfl h2)
 have HT:=Lib.hid (fun (wx:World) (hp:PkR wx b A cap l En (k+1)) (hz:n<=wx.heap.size)=>(hin wx hp hz).mono (fun e w' h=>CndX.of h))
 have HO:=Lib.hid (fun (wx:World) (kx:Nat) (hp:PkR wx b A cap l En kx) (hz:n<=wx.heap.size) (hk:c.2=(allT l En).drop kx)=>rf_one_lit (n:=n) (N:=1) row_A1r rfl (by decide) hp hz hnb (show oneF rpL ((allT l En).drop kx)=.ok y from by rw[<-hk];exact h3))
 have hz0:(w.alloc (.cells xZ 57)).heap.size=w.heap.size+1:=by simp
 have y1:IntKind.i64.wrap (d+1)=d+1:=IntWalk.i64_in _ (by omega)
 clear h hsee h1 h2 h3 hin
 go_enter Tryz.func115,Tryz.ntmps115
 go_upto_region 1 with fail
 generalize w.alloc (.cells xZ 57)=W0 at *
 go_upto_region 10 with(first
  | (go_at_call 64;(with_reducible refine(HN.out _ HS0.out.pk).mono ?_);rintro e w1 ⟨rfl,hb1⟩;have HS1:=Lib.hid (HS0.out.below (hb1.alloc hb1.size (.cells #[.int .u8 K,.string X,.int .i64 N,.int .i64 C] 98)));clear hb1)
  | (go_at_call 91;(with_reducible refine(HI1.out _ HS1.out.pk).mono ?_);rintro e w2 ⟨rfl,hb2⟩;have HS2:=Lib.hid (HS1.out.below hb2);clear hb2)
  | (go_at_call 91;(with_reducible refine(HI2.out _ HS2.out.pk).mono ?_);rintro e w3 ⟨rfl,hb3⟩;have HS3:=Lib.hid (HS2.out.below hb3);clear hb3)
  | (go_at_call 60;(with_reducible refine(HET.out _ HS3.out.pk HS3.out.zle).mono ?_);rintro e w4 ⟨rfl,hf4,hp4⟩;have HS4:=Lib.hid (HS3.out.step hf4 hp4);clear hf4 hp4)
  | (go_at_call 60;(with_reducible refine(HEP.out _ HS4.out.pk HS4.out.zle).mono ?_);rintro e w5 ⟨rfl,hf5,hp5⟩;have HS5:=Lib.hid (HS4.out.step hf5 hp5);have hz5:=HS5.out.fr.size;have hl5:=heap_lt HS5.out.rbox;clear hf5 hp5)
  | (go_at_call 62;(with_reducible refine(HT.out _ HS5.out.pk HS5.out.zle).mono ?_);rintro e w6 ⟨K4,B,N4,c1,f,op,m,t,k2,rfl,hx2,hp2,he2,hf2⟩;have HX6:=Lib.hid hx2;have HE6:=Lib.hid he2;have HS6:=Lib.hid (HS5.out.step hf2 hp2);have hz6:=hf2.size;clear hx2 hp2 he2 hf2))
 have HB7:=Lib.hid (alloc_bel w6 (.cells (xC K4 (.slice B N4 c1) f op m t) 57))
 have HS7:=Lib.hid (HS6.out.below HB7.out)
 have HX7:=Lib.hid ((HX6.out.keep (fun k hk=>HB7.out.block k hk.2) HB7.out.size).mono fun k hk=>(⟨hk.1,Nat.lt_of_lt_of_le hk.2 HB7.out.size⟩:w5.heap.size<=k/\k<(w6.alloc (.cells (xC K4 (.slice B N4 c1) f op m t) 57)).heap.size))
 have HQ7:=Lib.hid (heap_alloc_new w6 (.cells (xC K4 (.slice B N4 c1) f op m t) 57))
 generalize w6.alloc (.cells (xC K4 (.slice B N4 c1) f op m t) 57)=W7 at *
 have hb6:b<w6.heap.size:=heap_lt HS6.out.pk.box
 generalize w6.heap.size=q6 at *
 go_wp2_with ((go_at_call 58;(with_reducible refine(HO.out _ _ HS7.out.pk HS7.out.zle HE6.out).mono ?_);rintro e w8 ⟨rfl,hf8,k8,hp8,he8⟩;have HE8:=Lib.hid he8;have HS8:=Lib.hid (HS7.out.step hf8 hp8);have HX8:=Lib.hid ((HX7.out.keep (fun k hk=>hf8.oth k hk.2 (by omega)) hf8.size).mono fun k hk=>(⟨hk.1,Nat.lt_of_lt_of_le hk.2 hf8.size⟩:w5.heap.size<=k/\k<w8.heap.size));obtain⟨e0,e1,e2,e3,e4,e5,_,_⟩:=xBox_cells ((hf8.oth q6 (heap_lt HQ7.out) (by omega)).trans HQ7.out);obtain⟨d0,d1,d2,d3,d4,d5,hfd,hdw⟩:=xBox_cells HS8.out.rbox;clear hf8 hp8 he8))
 exact SgS.ret HS8.out HX8.out hl5 HE8.out rfl
def SingleR(n b:Nat)(A:Option Addr)(cap:Nat)(l:List RT)(En:Nat)(m:Nat):Prop := ∀(wx:World) (kx:Nat) (a:Cond × List Tok),PkR wx b A cap l En kx->n<=wx.heap.size->singleF m ((allT l En).drop kx)=.ok a->Calls Tryz.prog 115 #[.pointer (some ⟨b,0,none⟩),.int .i64 (32-(m:Int))] wx (PrR (xP wx.heap.size) n b A cap l En a wx)
theorem condR_of{n b:Nat}{A:Option Addr}{cap:Nat}{l:List RT}{En m:Nat}(hnb:n<=b)(h:SingleR n b A cap l En m):∀(wx:World) (kx:Nat) (a:Cond × List Tok),PkR wx b A cap l En kx->n<=wx.heap.size->condF m ((allT l En).drop kx)=.ok a->Calls Tryz.prog 62 #[.pointer (some ⟨b,0,none⟩),.int .i64 (32-(m:Int))] wx (PrR (xP wx.heap.size) n b A cap l En a wx) :=
 fun wx kx a hp hn ha=>rf_condition hp hn hnb _ fun wy hp hn=>rf_list_or hp hn hnb _ (sh_list _ _ (sh_single m)) (fun wz kz a hp hn ha=>rf_list_and hp hn hnb _ (sh_single m) h ha) ha
theorem rf_single{n b:Nat}{A:Option Addr}{cap:Nat}{l:List RT}{En:Nat}(hnb:n<=b):∀m,m<=32->SingleR n b A cap l En m
 | 0,hm,w,k,a,h,hn,ha=>by
  rcases singleF_ok ha with⟨h1,h2,h3⟩|⟨m',c,e,_⟩|⟨m',c,y,e,_⟩
  ·exact rf_single_test h hn hnb _ h1 h2 h3
  ·omega
  ·omega
 | m+1,hm,w,k,a,h,hn,ha=>by
  have ih:=rf_single (A:=A) (cap:=cap) (l:=l) (En:=En) hnb m (by omega)
  have e:(32:Int)-((m+1:Nat):Int)+1=32-(m:Int):=by omega
  rcases singleF_ok ha with⟨h1,h2,h3⟩|⟨m',c,em,h1,h3,rfl⟩|⟨m',c,y,em,h1,h2,h3,h4,rfl⟩
  ·exact rf_single_test h hn hnb _ h1 h2 h3
  ·obtain rfl:m=m':=by omega
   rw[List.tail_drop]at h3
   exact rf_single_not h hn hnb _ (by omega) (by omega) h1 (fun wx hp hz=>by rw[e];exact ih wx _ c hp hz h3)
  ·obtain rfl:m=m':=by omega
   rw[List.tail_drop]at h3
   exact rf_single_par h hn hnb _ (by omega) (by omega) h1 h2 h4 (fun wx hp hz=>by rw[e];exact condR_of hnb ih wx _ c hp hz h3)
theorem rf_cond{n:Nat}{w:World}{b:Nat}{A:Option Addr}{cap k En:Nat}{l:List RT}(h:PkR w b A cap l En k)(hn:n<=w.heap.size)(hnb:n<=b){a:Cond × List Tok}(ha:condF 32 ((allT l En).drop k)=.ok a) :
  Calls Tryz.prog 62 #[.pointer (some ⟨b,0,none⟩),.int .i64 0] w (PrR (xP w.heap.size) n b A cap l En a w) :=
 condR_of hnb (rf_single hnb 32 (Nat.le_refl _)) w k a h hn ha
abbrev rC(a:ByteArray)(m u:Int)(i:Bool)(k:Int)(L:Value)(f op:ByteArray)(x:Int)(t:ByteArray):Array Value:=#[.string a,.int .i64 m,.int .i64 u,.bool i,.int .u8 k,L,.string f,.string op,.int .i64 x,.string t]
abbrev rZ:Array Value:=rC ⟨#[]⟩ 0 0 false 0 (.slice none 0 0) ⟨#[]⟩ ⟨#[]⟩ 0 ⟨#[]⟩
abbrev putRr(z:Nat)(a:ByteArray)(m u:Int)(i:Bool)(k:Int)(L:Value)(f op:ByteArray)(x:Int)(t:ByteArray)(W:World):World :=
 (((((((((W.setCell ⟨z,0,none⟩ (.string a)).setCell ⟨z,1,none⟩ (.int .i64 m)).setCell ⟨z,2,none⟩ (.int .i64 u)).setCell ⟨z,3,none⟩ (.bool i)).setCell ⟨z,4,none⟩ (.int .u8 k)).setCell ⟨z,5,none⟩ L).setCell ⟨z,6,none⟩ (.string f)).setCell ⟨z,7,none⟩ (.string op)).setCell ⟨z,8,none⟩ (.int .i64 x)).setCell ⟨z,9,none⟩ (.string t)
section
variable {n b z : Nat} {A : Option Addr} {cap : Nat} {l : List RT} {En : Nat} {w W : World} {a : ByteArray} {m u : Int} {i : Bool} {k : Int} {L : Value} {f op : ByteArray} {x : Int} {t : ByteArray}
theorem rBox_cells(h:W.heap[z]?=some (.cells (rC a m u i k L f op x t) 59 (0,0))):W.cell? ⟨z,0,none⟩=some (.string a)/\W.cell? ⟨z,1,none⟩=some (.int .i64 m)/\W.cell? ⟨z,2,none⟩=some (.int .i64 u)/\W.cell? ⟨z,3,none⟩=some (.bool i)/\W.cell? ⟨z,4,none⟩=some (.int .u8 k)/\W.cell? ⟨z,5,none⟩=some L/\W.cell? ⟨z,6,none⟩=some (.string f)/\W.cell? ⟨z,7,none⟩=some (.string op)/\W.cell? ⟨z,8,none⟩=some (.int .i64 x)/\W.cell? ⟨z,9,none⟩=some (.string t)/\(∀j,W.frozen? ⟨z,j,none⟩=false)/\z<W.heap.size :=
 ⟨by rw[Lib.cell_of_heap h];rfl,by rw[Lib.cell_of_heap h];rfl,by rw[Lib.cell_of_heap h];rfl,by rw[Lib.cell_of_heap h];rfl,by rw[Lib.cell_of_heap h];rfl,by rw[Lib.cell_of_heap h];rfl,by rw[Lib.cell_of_heap h];rfl,by rw[Lib.cell_of_heap h];rfl,by rw[Lib.cell_of_heap h];rfl,by rw[Lib.cell_of_heap h];rfl,fun j=>Lib.frozen_of_heap h j,heap_lt h⟩
theorem putRr_box{a':ByteArray}{m' u':Int}{i':Bool}{k':Int}{L':Value}{f' op':ByteArray}{x':Int}{t':ByteArray}(h:W.heap[z]?=some (.cells (rC a' m' u' i' k' L' f' op' x' t') 59 (0,0))):(putRr z a m u i k L f op x t W).heap[z]?=some (.cells (rC a m u i k L f op x t) 59 (0,0)):=by
 unfold putRr
 rw[heap_set (heap_set (heap_set (heap_set (heap_set (heap_set (heap_set (heap_set (heap_set (heap_set h _) _) _) _) _) _) _) _) _) _]
 simp only[rC,List.setIfInBounds_toArray,List.set_cons_zero,List.set_cons_succ]
theorem putRr_fr{S:Nat->Prop}(h:Fr n S w W)(hn:n<=z)(hz:S z\/w.heap.size<=z):Fr n S w (putRr z a m u i k L f op x t W):=((((((((((h.set _ hn hz).set _ hn hz).set _ hn hz).set _ hn hz).set _ hn hz).set _ hn hz).set _ hn hz).set _ hn hz).set _ hn hz).set _ hn hz)
theorem putRr_ne{q:Nat}(hq:q≠z):(putRr z a m u i k L f op x t W).heap[q]?=W.heap[q]?:=by
 unfold putRr
 rw[heap_set_ne _ hq,heap_set_ne _ hq,heap_set_ne _ hq,heap_set_ne _ hq,heap_set_ne _ hq,heap_set_ne _ hq,heap_set_ne _ hq,heap_set_ne _ hq,heap_set_ne _ hq,heap_set_ne _ hq]
theorem putRr_size:(putRr z a m u i k L f op x t W).heap.size=W.heap.size:=by simp
end
def condX(P:Nat->Prop)(w:World)(c:Option Cond)(xs:Array Value):Prop:=match c with
 | none=>xs=xZ
 | some c=>XIn P w c xs
theorem condX.keep{P:Nat->Prop}{w w':World}{c:Option Cond}{xs:Array Value}(h:condX P w c xs)(hk:∀k,P k->w'.heap[k]?=w.heap[k]?)(hz:w.heap.size<=w'.heap.size):condX P w' c xs:=by
 cases c with
 | none=>exact h
 | some c=>exact XIn.keep h hk hz
theorem condX.mono{P Q:Nat->Prop}{w:World}{c:Option Cond}{xs:Array Value}(h:condX P w c xs)(hs:∀k,P k->Q k):condX Q w c xs:=by
 cases c with
 | none=>exact h
 | some c=>exact XIn.mono h hs
def tilI:Option Nat->Int
 | none => -1
 | some u=>(u:Int)
structure RrS(n b:Nat)(A:Option Addr)(cap:Nat)(l:List RT)(En:Nat)(w:World)(p:Nat)(cs:Array Value)(k:Nat)(W:World):Prop where
 pk:PkR W b A cap l En k
 fr:Fr n (fun i=>i=b) w W
 rbox:W.heap[w.heap.size]?=some (.cells rZ 59 (0,0))
 xbox:W.heap[p]?=some (.cells cs 59 (0,0))
 bl:b<w.heap.size
 nz:n<=w.heap.size
 pe:w.heap.size<p
section
variable {n b : Nat} {A : Option Addr} {cap : Nat} {l : List RT} {En : Nat} {w : World} {p : Nat} {cs : Array Value} {k : Nat} {W W' : World}
theorem RrS.step(h:RrS n b A cap l En w p cs k W)(hf:Fr n (fun i=>i=b) W W'){k':Nat}(hp:PkR W' b A cap l En k'):RrS n b A cap l En w p cs k' W' :=
 ⟨hp,h.fr.trans hf (fun i hi=>.inl hi),(hf.oth _ (heap_lt h.rbox) (by have:=h.bl;omega)).trans h.rbox,(hf.oth _ (heap_lt h.xbox) (by have:=h.bl;have:=h.pe;omega)).trans h.xbox,h.bl,h.nz,h.pe⟩
theorem RrS.zle(h:RrS n b A cap l En w p cs k W):n<=W.heap.size:=by have:=h.fr.size;have:=h.nz;omega
theorem RrS.below(h:RrS n b A cap l En w p cs k W)(hb:Below W.heap.size W W'):RrS n b A cap l En w p cs k W' :=
 h.step (Fr.of hb h.zle) (h.pk.below hb)
theorem RrS.set(h:RrS n b A cap l En w p cs k W)(i:Nat)(v:Value):RrS n b A cap l En w p (cs.setIfInBounds i v) k (W.setCell ⟨p,i,none⟩ v) :=
 ⟨h.pk.oth (by have:=h.bl;have:=h.pe;omega) v,h.fr.set v (by have:=h.nz;have:=h.pe;omega) (.inr (by have:=h.pe;omega)),by rw[heap_set_ne v (by have:=h.pe;omega)];exact h.rbox,by rw[heap_set h.xbox],h.bl,h.nz,h.pe⟩
end
structure RrP(n b:Nat)(r:RuleS)(w:World)(e:Ending)(w':World):Prop where
 fr:Fr n (fun k=>k=b) w w'
 res:∃k B N c f op x t,e=.returned (.agg (rC (ofL r.act) r.amt (tilI r.til) r.cond.isSome k (.slice B N c) f op x t))/\condX (fun k=>w.heap.size<=k/\k<w'.heap.size) w' r.cond (xC k (.slice B N c) f op x t)
 err:∃A cap l En k,PkR w' b A cap l En k
theorem rrule_ret{Q:Ending->World->Prop}{W:World}{r:Nat}{a:ByteArray}{m u:Int}{i:Bool}{k:Int}{L:Value}{f op:ByteArray}{x:Int}{t:ByteArray}{T:Array Value}(hb:W.heap[r]?=some (.cells (rC a m u i k L f op x t) 59 (0,0)))
  (hT2:T[2]?=some (.pointer (some ⟨r,0,none⟩))) (hQ:Q (.returned (.agg (rC a m u i k L f op x t))) W) :
  bodyPost Tryz.prog Tryz.f39 Q .ret { tmps:=T,defers := [] } W:=by
 obtain⟨c0,c1,c2,c3,c4,c5,c6,c7,c8,c9,_,_⟩:=rBox_cells hb
 refine bodyPost_ret (v:=.agg (rC a m u i k L f op x t)) ?_ rfl hQ
 simp[results,Tryz.f39,go_sem,hT2,c0,c1,c2,c3,c4,c5,c6,c7,c8,c9]
theorem RrS.ret{n b:Nat}{A:Option Addr}{cap:Nat}{l:List RT}{En:Nat}{w:World}{p j:Nat}{W:World}{act:Bs}{m:Int}{tl:Option Nat}{c:Option Cond}{a:ByteArray}{u:Int}{i:Bool}{k:Int}{B:Option Addr}{N c0:Nat}{f op:ByteArray}{x:Int}{t:ByteArray}{z:Nat}{T:Array Value}(h:RrS n b A cap l En w p (rC a m u i k (.slice B N c0) f op x t) j W)(ha:ofL act=a)(hu:tilI tl=u)(hi:c.isSome=i)(hc:condX (fun k=>z<=k/\k<W.heap.size) W c (xC k (.slice B N c0) f op x t))(hz:w.heap.size<z)
  (hT2:T[2]?=some (.pointer (some ⟨w.heap.size,0,none⟩))):bodyPost Tryz.prog Tryz.f39 (RrP n b ⟨act,m,tl,c⟩ w) .ret { tmps:=T,defers := [] } (putRr w.heap.size a m u i k (.slice B N c0) f op x t W):=by
 subst ha hu hi
 refine rrule_ret (putRr_box h.rbox) hT2 ⟨putRr_fr h.fr h.nz (.inr (Nat.le_refl _)),⟨k,B,N,c0,f,op,x,t,rfl,?_⟩,⟨A,cap,l,En,j,h.pk.keep (fun q hq=>putRr_ne (by have:=h.bl;omega)) (by rw[putRr_size];exact Nat.le_refl _)⟩⟩
 exact(hc.keep (fun q hq=>putRr_ne (by omega)) (by rw[putRr_size];exact Nat.le_refl _)).mono fun q hq=>⟨by omega,by rw[putRr_size];exact hq.2⟩
abbrev A6a:Array Value:=#[.string ⟨#[43]⟩,.string ⟨#[45]⟩,.string ⟨#[61]⟩,.string ⟨#[107,105,108,108]⟩,.string ⟨#[119,97,116,99,104]⟩,.string ⟨#[115,116,111,112]⟩]
theorem row_A6a(w:World)(t:TypeId):Row (w.alloc (.cells A6a t)) (some ⟨w.heap.size,0,none⟩) (strsL actsL):=row_block (heap_alloc_new w (.cells A6a t))
abbrev A3a:Array Value:=#[.string ⟨#[43]⟩,.string ⟨#[45]⟩,.string ⟨#[61]⟩]
def pmeL:List Bs := [yPlus,yMinus,yEq]
theorem row_A3a(w:World)(t:TypeId):Row (w.alloc (.cells A3a t)) (some ⟨w.heap.size,0,none⟩) (strsL pmeL):=row_block (heap_alloc_new w (.cells A3a t))
theorem ruleF_ok{ts:List Tok}{r:RuleS}(h:ruleF ts=.ok r):∃a m u c,oneF actsL ts=.ok a/\amtF a.1 a.2=.ok m/\tilF m.2=.ok u/\ifF u.2=.ok c/\endT c.2=true/\r=⟨a.1,m.1,u.1,c.1⟩:=by
 unfold ruleF at h
 obtain⟨a,e1,h⟩:=bindE_ok h
 obtain⟨m,e2,h⟩:=bindE_ok h
 obtain⟨u,e3,h⟩:=bindE_ok h
 obtain⟨c,e4,h⟩:=bindE_ok h
 split at h
 ·rename_i e5
  injection h with h
  exact⟨a,m,u,c,e1,e2,e3,e4,e5,h.symm⟩
 ·cases h
theorem amtR_ok{a:Bs}{ts:List Tok}{m:Int × List Tok}(ha:a∈actsL)(h:amtF a ts=.ok m) :
  ((a=yPlus\/a=yMinus)/\∃n,numF 10000 ts=.ok n/\m=((n.1:Int),n.2)) ∨
  (a=yEq/\isT yMinus ts=true/\∃n,numF 10000 ts.tail=.ok n/\m=(-(n.1:Int),n.2)) ∨
  (a=yEq/\isT yMinus ts=false/\∃n,numF 10000 ts=.ok n/\m=((n.1:Int),n.2)) ∨
  ((a≠yPlus/\a≠yMinus/\a≠yEq)/\m=(0,ts)):=by
 by_cases h1:a=yPlus\/a=yMinus
 ·rw[amtF_pm h1]at h
  obtain⟨n,e1,h⟩:=bindE_ok h
  injection h with h
  exact .inl ⟨h1,n,e1,h.symm⟩
 ·by_cases h2:a=yEq
  ·subst h2
   cases hq:isT yMinus ts with
   | true =>
    rw[amtF_neg hq]at h
    obtain⟨n,e1,h⟩:=bindE_ok h
    injection h with h
    exact .inr (.inl ⟨rfl,rfl,n,e1,h.symm⟩)
   | false =>
    rw[amtF_eq hq]at h
    obtain⟨n,e1,h⟩:=bindE_ok h
    injection h with h
    exact .inr (.inr (.inl ⟨rfl,rfl,n,e1,h.symm⟩))
  ·rw[not_or]at h1
   rw[amtF_no h1.1 h1.2 h2]at h
   injection h with h
   exact .inr (.inr (.inr ⟨⟨h1.1,h1.2,h2⟩,h.symm⟩))
theorem tilR_ok{ts:List Tok}{u:Option Nat × List Tok}(h:tilF ts=.ok u):(isT wUntil ts=true/\∃n,numF 105190559 ts.tail=.ok n/\u=(some n.1,n.2))\/(isT wUntil ts=false/\u=(none,ts)):=by
 unfold tilF at h
 split at h
 ·rename_i hq
  obtain⟨n,e1,h⟩:=bindE_ok h
  injection h with h
  exact .inl ⟨hq,n,e1,h.symm⟩
 ·rename_i hq
  injection h with h
  exact .inr ⟨by simpa using hq,h.symm⟩
theorem ifR_ok{ts:List Tok}{u:Option Cond × List Tok}(h:ifF ts=.ok u):(isT wIf ts=true/\∃c,condF 32 ts.tail=.ok c/\u=(some c.1,c.2))\/(isT wIf ts=false/\u=(none,ts)):=by
 unfold ifF at h
 split at h
 ·rename_i hq
  obtain⟨n,e1,h⟩:=bindE_ok h
  injection h with h
  exact .inl ⟨hq,n,e1,h.symm⟩
 ·rename_i hq
  injection h with h
  exact .inr ⟨by simpa using hq,h.symm⟩
theorem endR_at{l:List RT}{En k:Nat}(hg:∀p∈l,RtGood p)(hk:k<=l.length)(h:endT ((allT l En).drop k)=true):k=l.length:=by
 rw[allT_drop hk]at h
 rcases Nat.lt_or_ge k l.length with q|q
 ·have e:(seeT l En k).1.kind=0:=by simpa[endT] using h
  unfold seeT at e
  rw[dif_pos q]at e
  exact absurd e (hg _ (List.getElem_mem q)).kind.1
 ·omega
theorem numR_at{n:Nat}{w:World}{b:Nat}{A:Option Addr}{cap k En:Nat}{l:List RT}(h:PkR w b A cap l En k)(hn:n<=w.heap.size)(hnb:n<=b)(m:Nat)(mi:Int)(hmi:(m:Int)=mi)(hm:m<=2147483647){a:Nat × List Tok}(ha:numF m ((allT l En).drop k)=.ok a) :
  Calls Tryz.prog 61 #[.pointer (some ⟨b,0,none⟩),.int .i64 mi] w fun e w'=>e=.returned (.int .i64 (a.1:Int))/\a.1<=m/\Fr n (fun i=>i=b) w w'/\∃k',PkR w' b A cap l En k'/\a.2=(allT l En).drop k' :=
 hmi ▸ (rf_num h hn hnb m hm ha).mono fun e w' hp=>by
  obtain⟨v,k',e1,⟨e2,e3⟩,e4,e5⟩:=hp.res
  exact⟨by rw[e1,e2],e3,hp.fr,k',e4,e5⟩
set_option maxHeartbeats 8000000 in
set_option maxRecDepth 100000 in
theorem rf_rule{n:Nat}{w:World}{b:Nat}{A:Option Addr}{cap k En:Nat}{l:List RT}(h:PkR w b A cap l En k)(hn:n<=w.heap.size)(hnb:n<=b){r:RuleS}(hr:ruleF ((allT l En).drop k)=.ok r) :
  Calls Tryz.prog 39 #[.pointer (some ⟨b,0,none⟩)] w (RrP n b r w):=by
 obtain⟨a1,m1,u1,i1,hone,hamt,htil,hif,hend,rfl⟩:=ruleF_ok hr
 have hact:a1.1∈actsL:=oneF_mem (r:=a1.2) (x:=a1.1) hone
 obtain⟨act,t1⟩:=a1
 simp only at hamt hact
 have hbw:=h.cells.2.2.2.2.2
 have HB0:=Lib.hid (alloc_bel w (.cells rZ 59))
 have HX0:=Lib.hid (heap_alloc_new w (.cells rZ 59))
 have HP0:=Lib.hid (h.below HB0.out)
 have hz0:(w.alloc (.cells rZ 59)).heap.size=w.heap.size+1:=by simp
 obtain⟨AS,hAS⟩:∃AS,ofL act=AS:=⟨_,rfl⟩
 have HAS:=Lib.hid hAS
 have HO:=Lib.hid (fun (wx:World) (hp:PkR wx b A cap l En k) (hz:n<=wx.heap.size)=>rf_one_lit (n:=n) (N:=6) row_A6a rfl (by decide) hp hz hnb hone)
 rw[show ofL ((act,t1):Bs × List Tok).1=AS from hAS]at HO
 have E61:=Lib.hid (act_eq act [61])
 rw[hAS]at E61
 obtain⟨q,hq⟩:∃q,inBs pmeL (toL AS)=q:=⟨_,rfl⟩
 have HQ:=Lib.hid hq
 have HQA:=Lib.hid (show toL AS=act from by rw[<-hAS,toL_ofL])
 have HIN:=Lib.hid (fun (wx:World)=>rf_in_lit (N:=3) (wx:=wx) row_A3a rfl (by decide) AS hq)
 have HAMT:=Lib.hid (amtR_ok hact hamt)
 have HTIL:=Lib.hid (tilR_ok htil)
 have HIF:=Lib.hid (ifR_ok hif)
 have HEND:=Lib.hid hend
 clear h hr hone hamt htil hif hend hAS hq
 go_enter Tryz.func39,Tryz.ntmps39
 go_upto_region 1 with fail
 generalize w.alloc (.cells rZ 59)=W0 at *
 have HS1:=Lib.hid (show RrS n b A cap l En w W0.heap.size (rC ⟨#[]⟩ 0 (-1) false 0 (.slice none 0 0) ⟨#[]⟩ ⟨#[]⟩ 0 ⟨#[]⟩) k (W0.alloc (.cells (rC ⟨#[]⟩ 0 (-1) false 0 (.slice none 0 0) ⟨#[]⟩ ⟨#[]⟩ 0 ⟨#[]⟩) 59)) from
  ⟨HP0.out.below (alloc_bel _ _),Fr.of (HB0.out.trans ((alloc_bel W0 _).mono (by omega))) hn,((alloc_bel W0 _).block _ (by omega)).trans HX0.out,heap_alloc_new W0 _,hbw,hn,by omega⟩)
 have HZ0:=Lib.hid hz0
 clear hz0
 go_upto_region 2 with fail
 generalize W0.alloc (.cells (rC ⟨#[]⟩ 0 (-1) false 0 (.slice none 0 0) ⟨#[]⟩ ⟨#[]⟩ 0 ⟨#[]⟩) 59)=W1 at *
 clear HB0 HX0 HP0
 generalize W0.heap.size=p at *
 go_upto_region 3 with((go_at_call 58;(with_reducible refine(HO.out _ HS1.out.pk HS1.out.zle).mono ?_);rintro e w2 ⟨rfl,hf2,k2,hp2,hk2⟩;have HK2:=Lib.hid hk2;have HS2:=Lib.hid (HS1.out.step hf2 hp2);obtain⟨c0,c1,c2,c3,c4,c5,c6,c7,c8,c9,fz,xw⟩:=rBox_cells HS2.out.xbox;clear hf2 hp2 hk2))
 have HS3:=Lib.hid (show RrS n b A cap l En w p (rC AS 0 (-1) false 0 (.slice none 0 0) ⟨#[]⟩ ⟨#[]⟩ 0 ⟨#[]⟩) k2 (w2.setCell ⟨p,0,none⟩ (.string AS)) from HS2.out.set 0 (.string AS))
 clear c0 c1 c2 c3 c4 c5 c6 c7 c8 c9 fz xw HS2 HS1
 generalize w2.setCell ⟨p,0,none⟩ (.string AS)=W3 at *
 obtain⟨c0,c1,c2,c3,c4,c5,c6,c7,c8,c9,fz,xw⟩:=rBox_cells HS3.out.xbox
 go_upto_if 13 with(go_at_call 59;(with_reducible refine(HIN.out _).mono ?_);rintro e w4 ⟨rfl,rfl⟩)
 have HS4:=Lib.hid (HS3.out.below (alloc_bel W3 (.cells A3a 9)))
 clear c0 c1 c2 c3 c4 c5 c6 c7 c8 c9 fz xw HS3
 generalize W3.alloc (.cells A3a 9)=W4 at *
 go_cut [4] (fun _ wx=>∃k3,RrS n b A cap l En w p (rC AS m1.1 (-1) false 0 (.slice none 0 0) ⟨#[]⟩ ⟨#[]⟩ 0 ⟨#[]⟩) k3 wx/\m1.2=(allT l En).drop k3)
 case first =>
  rcases HAMT.out with⟨ha,nn,hN,rfl⟩|⟨rfl,hy,nn,hN,rfl⟩|⟨rfl,hy,nn,hN,rfl⟩|⟨⟨ha1,ha2,ha3⟩,rfl⟩
  ·obtain rfl:q=true:=by rw[<-HQ.out,HQA.out];rcases ha with rfl|rfl<;>rfl
   have e61:=E61.out.trans (decide_eq_false (by rcases ha with rfl|rfl<;>decide))
   have HN:=Lib.hid (fun (wx:World) (hp:PkR wx b A cap l En k2) (hz:n<=wx.heap.size)=>numR_at hp hz hnb 10000 10000 rfl (by omega) (show numF 10000 ((allT l En).drop k2)=.ok nn from by rw[<-HK2.out];exact hN))
   obtain⟨c0,c1,c2,c3,c4,c5,c6,c7,c8,c9,fz,xw⟩:=rBox_cells HS4.out.xbox
   clear hN ha
   go_wp2_with (go_at_call 61;(with_reducible refine(HN.out _ HS4.out.pk HS4.out.zle).mono ?_);rintro e w5 ⟨rfl,hm5,hf5,k5,hp5,hk5⟩;have HM5:=Lib.hid hm5;have HK5:=Lib.hid hk5;have HS5:=Lib.hid (HS4.out.step hf5 hp5);obtain⟨c0,c1,c2,c3,c4,c5,c6,c7,c8,c9,fz,xw⟩:=rBox_cells HS5.out.xbox;clear hf5 hp5 hk5 hm5)
   have HS6:=Lib.hid (show RrS n b A cap l En w p (rC AS (nn.1:Int) (-1) false 0 (.slice none 0 0) ⟨#[]⟩ ⟨#[]⟩ 0 ⟨#[]⟩) k5 (w5.setCell ⟨p,1,none⟩ (.int .i64 (nn.1:Int))) from HS5.out.set 1 (.int .i64 (nn.1:Int)))
   go_meet
   case rel=>exact⟨k5,HS6.out,HK5.out⟩
  ·obtain rfl:q=true:=by rw[<-HQ.out,HQA.out];rfl
   have e61:=E61.out.trans (decide_eq_true rfl)
   have HET:=Lib.hid (fun (wx:World) (hp:PkR wx b A cap l En k2) (hz:n<=wx.heap.size)=>eatR_yes hp hz hnb ⟨#[45]⟩ yMinus rfl (show isT yMinus ((allT l En).drop k2)=true from by rw[<-HK2.out];exact hy))
   have HN:=Lib.hid (fun (wx:World) (hp:PkR wx b A cap l En (k2+1)) (hz:n<=wx.heap.size)=>numR_at hp hz hnb 10000 10000 rfl (by omega) (show numF 10000 ((allT l En).drop (k2+1))=.ok nn from by rw[<-List.tail_drop, ← HK2.out];exact hN))
   obtain⟨c0,c1,c2,c3,c4,c5,c6,c7,c8,c9,fz,xw⟩:=rBox_cells HS4.out.xbox
   clear hN hy
   go_upto_region 7 with(first
    | (go_at_call 60;(with_reducible refine(HET.out _ HS4.out.pk HS4.out.zle).mono ?_);rintro e wE ⟨rfl,hfE,hpE⟩;have HSE:=Lib.hid (HS4.out.step hfE hpE);clear hfE hpE)
    | (go_at_call 61;(with_reducible refine(HN.out _ HSE.out.pk HSE.out.zle).mono ?_);rintro e w5 ⟨rfl,hm5,hf5,k5,hp5,hk5⟩;have HM5:=Lib.hid hm5;have HK5:=Lib.hid hk5;have HS5:=Lib.hid (HSE.out.step hf5 hp5);obtain⟨c0,c1,c2,c3,c4,c5,c6,c7,c8,c9,fz,xw⟩:=rBox_cells HS5.out.xbox;clear hf5 hp5 hk5 hm5))
   have HS6:=Lib.hid (show RrS n b A cap l En w p (rC AS (nn.1:Int) (-1) false 0 (.slice none 0 0) ⟨#[]⟩ ⟨#[]⟩ 0 ⟨#[]⟩) k5 (w5.setCell ⟨p,1,none⟩ (.int .i64 (nn.1:Int))) from HS5.out.set 1 (.int .i64 (nn.1:Int)))
   clear c0 c1 c2 c3 c4 c5 c6 c7 c8 c9 fz xw
   generalize w5.setCell ⟨p,1,none⟩ (.int .i64 (nn.1:Int))=W6 at *
   obtain⟨c0,c1,c2,c3,c4,c5,c6,c7,c8,c9,fz,xw⟩:=rBox_cells HS6.out.xbox
   have hmm:=HM5.out
   have y0:IntKind.i64.wrap (0-(nn.1:Int)) = -(nn.1:Int):=by rw[IntWalk.i64_in _ (by omega)];omega
   have y1:IntKind.i64.wrap (-(nn.1:Int)) = -(nn.1:Int):=IntWalk.i64_in _ (by omega)
   go_wp2_with fail
   have HS7:=Lib.hid (show RrS n b A cap l En w p (rC AS (-(nn.1:Int)) (-1) false 0 (.slice none 0 0) ⟨#[]⟩ ⟨#[]⟩ 0 ⟨#[]⟩) k5 (W6.setCell ⟨p,1,none⟩ (.int .i64 (-(nn.1:Int)))) from HS6.out.set 1 (.int .i64 (-(nn.1:Int))))
   go_meet
   case rel=>exact⟨k5,HS7.out,HK5.out⟩
  ·obtain rfl:q=true:=by rw[<-HQ.out,HQA.out];rfl
   have e61:=E61.out.trans (decide_eq_true rfl)
   have HET:=Lib.hid (fun (wx:World) (hp:PkR wx b A cap l En k2) (hz:n<=wx.heap.size)=>eatR_no hp hz hnb ⟨#[45]⟩ yMinus rfl (show isT yMinus ((allT l En).drop k2)=false from by rw[<-HK2.out];exact hy))
   have HN:=Lib.hid (fun (wx:World) (hp:PkR wx b A cap l En k2) (hz:n<=wx.heap.size)=>numR_at hp hz hnb 10000 10000 rfl (by omega) (show numF 10000 ((allT l En).drop k2)=.ok nn from by rw[<-HK2.out];exact hN))
   obtain⟨c0,c1,c2,c3,c4,c5,c6,c7,c8,c9,fz,xw⟩:=rBox_cells HS4.out.xbox
   clear hN hy
   go_wp2_with (first
    | (go_at_call 60;(with_reducible refine(HET.out _ HS4.out.pk HS4.out.zle).mono ?_);rintro e wE ⟨rfl,hfE,hpE⟩;have HSE:=Lib.hid (HS4.out.step hfE hpE);clear hfE hpE)
    | (go_at_call 61;(with_reducible refine(HN.out _ HSE.out.pk HSE.out.zle).mono ?_);rintro e w5 ⟨rfl,hm5,hf5,k5,hp5,hk5⟩;have HM5:=Lib.hid hm5;have HK5:=Lib.hid hk5;have HS5:=Lib.hid (HSE.out.step hf5 hp5);obtain⟨c0,c1,c2,c3,c4,c5,c6,c7,c8,c9,fz,xw⟩:=rBox_cells HS5.out.xbox;clear hf5 hp5 hk5 hm5))
   have HS6:=Lib.hid (show RrS n b A cap l En w p (rC AS (nn.1:Int) (-1) false 0 (.slice none 0 0) ⟨#[]⟩ ⟨#[]⟩ 0 ⟨#[]⟩) k5 (w5.setCell ⟨p,1,none⟩ (.int .i64 (nn.1:Int))) from HS5.out.set 1 (.int .i64 (nn.1:Int)))
   go_meet
   case rel=>exact⟨k5,HS6.out,HK5.out⟩
  ·obtain rfl:q=false:=by
    rw[<-HQ.out,HQA.out]
    simp only[inBs,pmeL,List.any_cons,List.any_nil,Bool.or_false,Bool.or_eq_false_iff,beq_eq_false_iff_ne]
    exact⟨fun h=>ha1 h.symm,fun h=>ha2 h.symm,fun h=>ha3 h.symm⟩
   clear ha1 ha2 ha3
   go_wp2_with fail
   go_meet
   case rel=>exact⟨k2,HS4.out,HK2.out⟩
 case rest =>
  obtain⟨k3,hs3,he3⟩:=hcut
  clear HS4
  have HS:=Lib.hid hs3
  have HE:=Lib.hid he3
  clear hs3 he3
  clear HAMT
  generalize m1.1=ms at *
  obtain⟨_,_,_,g3,_,gw⟩:=HS.out.pk.cells
  rcases HTIL.out with⟨hq,nn,hN,rfl⟩|⟨hq,rfl⟩
  ·have HET:=Lib.hid (fun (wx:World) (hp:PkR wx b A cap l En k3) (hz:n<=wx.heap.size)=>eatR_yes hp hz hnb ⟨#[117,110,116,105,108]⟩ wUntil rfl (show isT wUntil ((allT l En).drop k3)=true from by rw[<-HE.out];exact hq))
   have HN:=Lib.hid (fun (wx:World) (hp:PkR wx b A cap l En (k3+1)) (hz:n<=wx.heap.size)=>numR_at hp hz hnb 105190559 105190559 rfl (by omega) (show numF 105190559 ((allT l En).drop (k3+1))=.ok nn from by rw[<-List.tail_drop, ← HE.out];exact hN))
   clear hN hq
   go_upto_region 10 with(first
    | (go_at_call 60;(with_reducible refine(HET.out _ HS.out.pk HS.out.zle).mono ?_);rintro e wE ⟨rfl,hfE,hpE⟩;have HSE:=Lib.hid (HS.out.step hfE hpE);clear hfE hpE)
    | (go_at_call 61;(with_reducible refine(HN.out _ HSE.out.pk HSE.out.zle).mono ?_);rintro e w5 ⟨rfl,hm5,hf5,k5,hp5,hk5⟩;have HM5:=Lib.hid hm5;have HK5:=Lib.hid hk5;have HS5:=Lib.hid (HSE.out.step hf5 hp5);obtain⟨c0,c1,c2,c3,c4,c5,c6,c7,c8,c9,fz,xw⟩:=rBox_cells HS5.out.xbox;clear hf5 hp5 hk5 hm5))
   have HSU:=Lib.hid (show RrS n b A cap l En w p (rC AS ms (nn.1:Int) false 0 (.slice none 0 0) ⟨#[]⟩ ⟨#[]⟩ 0 ⟨#[]⟩) k5 (w5.setCell ⟨p,2,none⟩ (.int .i64 (nn.1:Int))) from HS5.out.set 2 (.int .i64 (nn.1:Int)))
   clear c0 c1 c2 c3 c4 c5 c6 c7 c8 c9 fz xw g3 gw
   generalize w5.setCell ⟨p,2,none⟩ (.int .i64 (nn.1:Int))=WU at *
   have HTU:=Lib.hid (show tilI (some nn.1)=(nn.1:Int) from rfl)
   obtain⟨_,_,_,g3,_,gw⟩:=HSU.out.pk.cells
   rcases HIF.out with⟨hq,cc,hC,rfl⟩|⟨hq,rfl⟩
   ·have HET2:=Lib.hid (fun (wx:World) (hp:PkR wx b A cap l En k5) (hz:n<=wx.heap.size)=>eatR_yes hp hz hnb ⟨#[105,102]⟩ wIf rfl (show isT wIf ((allT l En).drop k5)=true from by rw[<-HK5.out];exact hq))
    have HCC:=Lib.hid (fun (wx:World) (hp:PkR wx b A cap l En (k5+1)) (hz:n<=wx.heap.size)=>(rf_cond hp hz hnb (show condF 32 ((allT l En).drop (k5+1))=.ok cc from by rw[<-List.tail_drop, ← HK5.out];exact hC)).mono (fun e w' h=>CndX.of h))
    clear hC hq
    go_upto_region 12 with((go_at_call 60;(with_reducible refine(HET2.out _ HSU.out.pk HSU.out.zle).mono ?_);rintro e wI ⟨rfl,hfE,hpE⟩;have HSI:=Lib.hid (HSU.out.step hfE hpE);obtain⟨c0,c1,c2,c3,c4,c5,c6,c7,c8,c9,fz,xw⟩:=rBox_cells HSI.out.xbox;clear hfE hpE))
    have HSJ:=Lib.hid (show RrS n b A cap l En w p (rC AS ms (nn.1:Int) true 0 (.slice none 0 0) ⟨#[]⟩ ⟨#[]⟩ 0 ⟨#[]⟩) (k5+1) (wI.setCell ⟨p,3,none⟩ (.bool true)) from HSI.out.set 3 (.bool true))
    clear c0 c1 c2 c3 c4 c5 c6 c7 c8 c9 fz xw g3 gw
    generalize wI.setCell ⟨p,3,none⟩ (.bool true)=WJ at *
    have hlp:w.heap.size<WJ.heap.size:=heap_lt HSJ.out.rbox
    go_upto_region 13 with((go_at_call 62;(with_reducible refine(HCC.out _ HSJ.out.pk HSJ.out.zle).mono ?_);rintro e w8 ⟨K,B,N,c1,f,op,mm,t,k8,rfl,hx8,hp8,he8,hf8⟩;have HX8:=Lib.hid hx8;have HE8:=Lib.hid he8;have HS8:=Lib.hid (HSJ.out.step hf8 hp8);obtain⟨d0,d1,d2,d3,d4,d5,d6,d7,d8,d9,fz,xw⟩:=rBox_cells HS8.out.xbox;clear hx8 hp8 he8 hf8))
    have HS9:=Lib.hid (show RrS n b A cap l En w p (rC AS ms (nn.1:Int) true K (.slice B N c1) f op mm t) k8 ((((((w8.setCell ⟨p,4,none⟩ (.int .u8 K)).setCell ⟨p,5,none⟩ (.slice B N c1)).setCell ⟨p,6,none⟩ (.string f)).setCell ⟨p,7,none⟩ (.string op)).setCell ⟨p,8,none⟩ (.int .i64 mm)).setCell ⟨p,9,none⟩ (.string t)) from
     (((((HS8.out.set 4 (.int .u8 K)).set 5 (.slice B N c1)).set 6 (.string f)).set 7 (.string op)).set 8 (.int .i64 mm)).set 9 (.string t))
    have HX9:=Lib.hid (HX8.out.keep (w':=((((((w8.setCell ⟨p,4,none⟩ (.int .u8 K)).setCell ⟨p,5,none⟩ (.slice B N c1)).setCell ⟨p,6,none⟩ (.string f)).setCell ⟨p,7,none⟩ (.string op)).setCell ⟨p,8,none⟩ (.int .i64 mm)).setCell ⟨p,9,none⟩ (.string t))) (fun q hq=>by have:=heap_lt HSJ.out.xbox;rw[heap_set_ne _ (by omega),heap_set_ne _ (by omega),heap_set_ne _ (by omega),heap_set_ne _ (by omega),heap_set_ne _ (by omega),heap_set_ne _ (by omega)]) (by simp))
    rw[show w8.heap.size=((((((w8.setCell ⟨p,4,none⟩ (.int .u8 K)).setCell ⟨p,5,none⟩ (.slice B N c1)).setCell ⟨p,6,none⟩ (.string f)).setCell ⟨p,7,none⟩ (.string op)).setCell ⟨p,8,none⟩ (.int .i64 mm)).setCell ⟨p,9,none⟩ (.string t)).heap.size from by simp]at HX9
    clear d0 d1 d2 d3 d4 d5 d6 d7 d8 d9 fz xw HS8 HX8
    generalize ((((((w8.setCell ⟨p,4,none⟩ (.int .u8 K)).setCell ⟨p,5,none⟩ (.slice B N c1)).setCell ⟨p,6,none⟩ (.string f)).setCell ⟨p,7,none⟩ (.string op)).setCell ⟨p,8,none⟩ (.int .i64 mm)).setCell ⟨p,9,none⟩ (.string t))=W9 at *
    have HKE:=Lib.hid (endR_at HS9.out.pk.good HS9.out.pk.le (show endT ((allT l En).drop k8)=true from by rw[<-HE8.out];exact HEND.out))
    obtain⟨g0,g1,g2,g3,_,gw⟩:=HS9.out.pk.cells
    have hdk:decide (k8<l.length)=false:=decide_eq_false (by have:=HKE.out;omega)
    have hdk2:¬ (k8:Int)<(l.length:Int):=by have:=HKE.out;omega
    go_quiet (fail)
    have HS9d:=Lib.hid (show RrS n b A cap l En w p _ k8 (W9.drewN nq) from⟨HS9.out.pk.drewN nq,⟨below_drewN HS9.out.fr.bel nq,HS9.out.fr.oth⟩,HS9.out.rbox,HS9.out.xbox,HS9.out.bl,HS9.out.nz,HS9.out.pe⟩)
    have HX9d:=Lib.hid (HX9.out.keep (w':=W9.drewN nq) (fun _ _=>rfl) (Nat.le_refl _))
    clear HS9 HX9 g0 g1 g2 g3 gw
    have hsz:(W9.drewN nq).heap.size=W9.heap.size:=rfl
    rw[<-hsz]at HX9d
    clear hsz
    generalize W9.drewN nq=WD at *
    obtain⟨c0,c1',c2,c3,c4,c5,c6,c7,c8,c9,fz,xw⟩:=rBox_cells HS9d.out.xbox
    obtain⟨d0,d1,d2,d3,d4,d5,d6,d7,d8,d9,fd,xd⟩:=rBox_cells HS9d.out.rbox
    have hpl:=HS9d.out.pe
    go_wp2_with fail
    exact RrS.ret HS9d.out HAS.out HTU.out rfl HX9d.out hlp rfl
   ·have HET2:=Lib.hid (fun (wx:World) (hp:PkR wx b A cap l En k5) (hz:n<=wx.heap.size)=>eatR_no hp hz hnb ⟨#[105,102]⟩ wIf rfl (show isT wIf ((allT l En).drop k5)=false from by rw[<-HK5.out];exact hq))
    clear hq
    go_upto_region 13 with((go_at_call 60;(with_reducible refine(HET2.out _ HSU.out.pk HSU.out.zle).mono ?_);rintro e W9 ⟨rfl,hfE,hpE⟩;have HS9:=Lib.hid (HSU.out.step hfE hpE);clear hfE hpE))
    clear g3 gw
    have HX9:=Lib.hid (show condX (fun k=>w.heap.size+1<=k/\k<W9.heap.size) W9 none xZ from rfl)
    obtain⟨k8,hk8⟩:∃k8,k5=k8:=⟨_,rfl⟩
    rw[hk8]at HS9 HK5
    clear hk8
    have HKE:=Lib.hid (endR_at HS9.out.pk.good HS9.out.pk.le (show endT ((allT l En).drop k8)=true from by rw[<-HK5.out];exact HEND.out))
    obtain⟨g0,g1,g2,g3,_,gw⟩:=HS9.out.pk.cells
    have hdk:decide (k8<l.length)=false:=decide_eq_false (by have:=HKE.out;omega)
    have hdk2:¬ (k8:Int)<(l.length:Int):=by have:=HKE.out;omega
    go_quiet (fail)
    have HS9d:=Lib.hid (show RrS n b A cap l En w p _ k8 (W9.drewN nq) from⟨HS9.out.pk.drewN nq,⟨below_drewN HS9.out.fr.bel nq,HS9.out.fr.oth⟩,HS9.out.rbox,HS9.out.xbox,HS9.out.bl,HS9.out.nz,HS9.out.pe⟩)
    have HX9d:=Lib.hid (HX9.out.keep (w':=W9.drewN nq) (fun _ _=>rfl) (Nat.le_refl _))
    clear HS9 HX9 g0 g1 g2 g3 gw
    have hsz:(W9.drewN nq).heap.size=W9.heap.size:=rfl
    rw[<-hsz]at HX9d
    clear hsz
    generalize W9.drewN nq=WD at *
    obtain⟨c0,c1',c2,c3,c4,c5,c6,c7,c8,c9,fz,xw⟩:=rBox_cells HS9d.out.xbox
    obtain⟨d0,d1,d2,d3,d4,d5,d6,d7,d8,d9,fd,xd⟩:=rBox_cells HS9d.out.rbox
    have hpl:=HS9d.out.pe
    go_wp2_with fail
    exact RrS.ret (c:=none) HS9d.out HAS.out HTU.out rfl HX9d.out (by omega) rfl
  ·have HET:=Lib.hid (fun (wx:World) (hp:PkR wx b A cap l En k3) (hz:n<=wx.heap.size)=>eatR_no hp hz hnb ⟨#[117,110,116,105,108]⟩ wUntil rfl (show isT wUntil ((allT l En).drop k3)=false from by rw[<-HE.out];exact hq))
   clear hq
   go_upto_region 10 with((go_at_call 60;(with_reducible refine(HET.out _ HS.out.pk HS.out.zle).mono ?_);rintro e WU ⟨rfl,hfE,hpE⟩;have HSU:=Lib.hid (HS.out.step hfE hpE);clear hfE hpE))
   clear g3 gw
   obtain⟨k5,hk5⟩:∃k5,k3=k5:=⟨_,rfl⟩
   rw[hk5]at HSU HE
   have HK5:=Lib.hid HE.out
   clear hk5
   have HTU:=Lib.hid (show tilI none=(-1:Int) from rfl)
   obtain⟨_,_,_,g3,_,gw⟩:=HSU.out.pk.cells
   rcases HIF.out with⟨hq,cc,hC,rfl⟩|⟨hq,rfl⟩
   ·have HET2:=Lib.hid (fun (wx:World) (hp:PkR wx b A cap l En k5) (hz:n<=wx.heap.size)=>eatR_yes hp hz hnb ⟨#[105,102]⟩ wIf rfl (show isT wIf ((allT l En).drop k5)=true from by rw[<-HK5.out];exact hq))
    have HCC:=Lib.hid (fun (wx:World) (hp:PkR wx b A cap l En (k5+1)) (hz:n<=wx.heap.size)=>(rf_cond hp hz hnb (show condF 32 ((allT l En).drop (k5+1))=.ok cc from by rw[<-List.tail_drop, ← HK5.out];exact hC)).mono (fun e w' h=>CndX.of h))
    clear hC hq
    go_upto_region 12 with((go_at_call 60;(with_reducible refine(HET2.out _ HSU.out.pk HSU.out.zle).mono ?_);rintro e wI ⟨rfl,hfE,hpE⟩;have HSI:=Lib.hid (HSU.out.step hfE hpE);obtain⟨c0,c1,c2,c3,c4,c5,c6,c7,c8,c9,fz,xw⟩:=rBox_cells HSI.out.xbox;clear hfE hpE))
    have HSJ:=Lib.hid (show RrS n b A cap l En w p (rC AS ms (-1) true 0 (.slice none 0 0) ⟨#[]⟩ ⟨#[]⟩ 0 ⟨#[]⟩) (k5+1) (wI.setCell ⟨p,3,none⟩ (.bool true)) from HSI.out.set 3 (.bool true))
    clear c0 c1 c2 c3 c4 c5 c6 c7 c8 c9 fz xw g3 gw
    generalize wI.setCell ⟨p,3,none⟩ (.bool true)=WJ at *
    have hlp:w.heap.size<WJ.heap.size:=heap_lt HSJ.out.rbox
    go_upto_region 13 with((go_at_call 62;(with_reducible refine(HCC.out _ HSJ.out.pk HSJ.out.zle).mono ?_);rintro e w8 ⟨K,B,N,c1,f,op,mm,t,k8,rfl,hx8,hp8,he8,hf8⟩;have HX8:=Lib.hid hx8;have HE8:=Lib.hid he8;have HS8:=Lib.hid (HSJ.out.step hf8 hp8);obtain⟨d0,d1,d2,d3,d4,d5,d6,d7,d8,d9,fz,xw⟩:=rBox_cells HS8.out.xbox;clear hx8 hp8 he8 hf8))
    have HS9:=Lib.hid (show RrS n b A cap l En w p (rC AS ms (-1) true K (.slice B N c1) f op mm t) k8 ((((((w8.setCell ⟨p,4,none⟩ (.int .u8 K)).setCell ⟨p,5,none⟩ (.slice B N c1)).setCell ⟨p,6,none⟩ (.string f)).setCell ⟨p,7,none⟩ (.string op)).setCell ⟨p,8,none⟩ (.int .i64 mm)).setCell ⟨p,9,none⟩ (.string t)) from
     (((((HS8.out.set 4 (.int .u8 K)).set 5 (.slice B N c1)).set 6 (.string f)).set 7 (.string op)).set 8 (.int .i64 mm)).set 9 (.string t))
    have HX9:=Lib.hid (HX8.out.keep (w':=((((((w8.setCell ⟨p,4,none⟩ (.int .u8 K)).setCell ⟨p,5,none⟩ (.slice B N c1)).setCell ⟨p,6,none⟩ (.string f)).setCell ⟨p,7,none⟩ (.string op)).setCell ⟨p,8,none⟩ (.int .i64 mm)).setCell ⟨p,9,none⟩ (.string t))) (fun q hq=>by have:=heap_lt HSJ.out.xbox;rw[heap_set_ne _ (by omega),heap_set_ne _ (by omega),heap_set_ne _ (by omega),heap_set_ne _ (by omega),heap_set_ne _ (by omega),heap_set_ne _ (by omega)]) (by simp))
    rw[show w8.heap.size=((((((w8.setCell ⟨p,4,none⟩ (.int .u8 K)).setCell ⟨p,5,none⟩ (.slice B N c1)).setCell ⟨p,6,none⟩ (.string f)).setCell ⟨p,7,none⟩ (.string op)).setCell ⟨p,8,none⟩ (.int .i64 mm)).setCell ⟨p,9,none⟩ (.string t)).heap.size from by simp]at HX9
    clear d0 d1 d2 d3 d4 d5 d6 d7 d8 d9 fz xw HS8 HX8
    generalize ((((((w8.setCell ⟨p,4,none⟩ (.int .u8 K)).setCell ⟨p,5,none⟩ (.slice B N c1)).setCell ⟨p,6,none⟩ (.string f)).setCell ⟨p,7,none⟩ (.string op)).setCell ⟨p,8,none⟩ (.int .i64 mm)).setCell ⟨p,9,none⟩ (.string t))=W9 at *
    have HKE:=Lib.hid (endR_at HS9.out.pk.good HS9.out.pk.le (show endT ((allT l En).drop k8)=true from by rw[<-HE8.out];exact HEND.out))
    obtain⟨g0,g1,g2,g3,_,gw⟩:=HS9.out.pk.cells
    have hdk:decide (k8<l.length)=false:=decide_eq_false (by have:=HKE.out;omega)
    have hdk2:¬ (k8:Int)<(l.length:Int):=by have:=HKE.out;omega
    go_quiet (fail)
    have HS9d:=Lib.hid (show RrS n b A cap l En w p _ k8 (W9.drewN nq) from⟨HS9.out.pk.drewN nq,⟨below_drewN HS9.out.fr.bel nq,HS9.out.fr.oth⟩,HS9.out.rbox,HS9.out.xbox,HS9.out.bl,HS9.out.nz,HS9.out.pe⟩)
    have HX9d:=Lib.hid (HX9.out.keep (w':=W9.drewN nq) (fun _ _=>rfl) (Nat.le_refl _))
    clear HS9 HX9 g0 g1 g2 g3 gw
    have hsz:(W9.drewN nq).heap.size=W9.heap.size:=rfl
    rw[<-hsz]at HX9d
    clear hsz
    generalize W9.drewN nq=WD at *
    obtain⟨c0,c1',c2,c3,c4,c5,c6,c7,c8,c9,fz,xw⟩:=rBox_cells HS9d.out.xbox
    obtain⟨d0,d1,d2,d3,d4,d5,d6,d7,d8,d9,fd,xd⟩:=rBox_cells HS9d.out.rbox
    have hpl:=HS9d.out.pe
    go_wp2_with fail
    exact RrS.ret HS9d.out HAS.out HTU.out rfl HX9d.out hlp rfl
   ·have HET2:=Lib.hid (fun (wx:World) (hp:PkR wx b A cap l En k5) (hz:n<=wx.heap.size)=>eatR_no hp hz hnb ⟨#[105,102]⟩ wIf rfl (show isT wIf ((allT l En).drop k5)=false from by rw[<-HK5.out];exact hq))
    clear hq
    go_upto_region 13 with((go_at_call 60;(with_reducible refine(HET2.out _ HSU.out.pk HSU.out.zle).mono ?_);rintro e W9 ⟨rfl,hfE,hpE⟩;have HS9:=Lib.hid (HSU.out.step hfE hpE);clear hfE hpE))
    clear g3 gw
    have HX9:=Lib.hid (show condX (fun k=>w.heap.size+1<=k/\k<W9.heap.size) W9 none xZ from rfl)
    obtain⟨k8,hk8⟩:∃k8,k5=k8:=⟨_,rfl⟩
    rw[hk8]at HS9 HK5
    clear hk8
    have HKE:=Lib.hid (endR_at HS9.out.pk.good HS9.out.pk.le (show endT ((allT l En).drop k8)=true from by rw[<-HK5.out];exact HEND.out))
    obtain⟨g0,g1,g2,g3,_,gw⟩:=HS9.out.pk.cells
    have hdk:decide (k8<l.length)=false:=decide_eq_false (by have:=HKE.out;omega)
    have hdk2:¬ (k8:Int)<(l.length:Int):=by have:=HKE.out;omega
    go_quiet (fail)
    have HS9d:=Lib.hid (show RrS n b A cap l En w p _ k8 (W9.drewN nq) from⟨HS9.out.pk.drewN nq,⟨below_drewN HS9.out.fr.bel nq,HS9.out.fr.oth⟩,HS9.out.rbox,HS9.out.xbox,HS9.out.bl,HS9.out.nz,HS9.out.pe⟩)
    have HX9d:=Lib.hid (HX9.out.keep (w':=W9.drewN nq) (fun _ _=>rfl) (Nat.le_refl _))
    clear HS9 HX9 g0 g1 g2 g3 gw
    have hsz:(W9.drewN nq).heap.size=W9.heap.size:=rfl
    rw[<-hsz]at HX9d
    clear hsz
    generalize W9.drewN nq=WD at *
    obtain⟨c0,c1',c2,c3,c4,c5,c6,c7,c8,c9,fz,xw⟩:=rBox_cells HS9d.out.xbox
    obtain⟨d0,d1,d2,d3,d4,d5,d6,d7,d8,d9,fd,xd⟩:=rBox_cells HS9d.out.rbox
    have hpl:=HS9d.out.pe
    go_wp2_with fail
    exact RrS.ret (c:=none) HS9d.out HAS.out HTU.out rfl HX9d.out (by omega) rfl
end Go.Proofs.YtannhfnpigiggaaGreatDoor
