import Derived.Test.YtannhfnpigiggaaGreatDoorPt46
import Derived.Test.YtannhfnpigiggaaGreatDoorPt52
namespace Go.Proofs.YtannhfnpigiggaaGreatDoor
set_option linter.unusedSimpArgs false
set_option linter.unusedVariables false
open Go.RowKit
def hexS(n:Nat):UInt8:=if n<10 then UInt8.ofNat (48+n) else UInt8.ofNat (87+n)
def hexL(l:Bs):Bs:=l.flatMap fun c=>[hexS (c.toNat / 16),hexS (c.toNat % 16)]
theorem conv_bytR(T:TypeId)(hT:Tryz.prog.underlying T=some .string){w:World}{base:Nat}{v:Value}{l:List UInt8}(h:w.ownsRow base 5 1 v l.length (bytesV l)):(convert 50 T v).run Tryz.prog w=.ok (.string (ofL l)) w:=by
 rcases own_form h with⟨rfl,h0⟩|⟨g,cap,rfl,_,_,_,hc⟩
 ·have:l=[]:=List.eq_nil_of_length_eq_zero h0
  subst this
  rw[run_convert_bytes_string w _ _ 5 none 0 0 Tryz.underlying50 Tryz.underlying5 hT]
  rfl
 ·refine run_convert_bytes_back (P:=Tryz.prog) w 50 T 5 ⟨g,0,none⟩ cap l Tryz.underlying50 Tryz.underlying5 hT (fun j hj=>?_)
  have:(⟨g,0,none⟩:Addr).add j=⟨g,j,none⟩:=by
   unfold Addr.add;split
   ·rename_i h;subst h;rfl
   ·simp
  rw[this]
  exact hc j _ (by simp[hj])
theorem hexL_length(l:Bs):(hexL l).length=2*l.length:=by
 induction l with
 | nil=>rfl
 | cons c r ih=>simp only[hexL,List.flatMap_cons,List.length_append]at ih⊢;rw[ih];simp;omega
theorem hex_at(d:Nat)(h:d<16):(⟨#[48,49,50,51,52,53,54,55,56,57,97,98,99,100,101,102]⟩:ByteArray)[d]'(h)=hexS d:=by
 have:∀x:Fin 16,(⟨#[48,49,50,51,52,53,54,55,56,57,97,98,99,100,101,102]⟩:ByteArray)[x.val]'(x.isLt)=hexS x.val:=by decide +kernel
 exact this ⟨d,h⟩
set_option maxHeartbeats 4000000 in
set_option maxRecDepth 100000 in
theorem rf_hex(l:Bs)(hl:l.length<=1000)(A:Option Addr)(cp:Nat)(w:World)(hr:Row w A (bytesV l)) :
  Calls Tryz.prog 66 #[.slice A l.length cp] w fun e w'=>e=.returned (.string (ofL (hexL l)))/\Below w.heap.size w w':=by
 have HR:=Lib.hid hr
 clear hr
 go_enter Tryz.func66,Tryz.ntmps66
 go_wp2_with fail
 go_loopw [3,4] (fun v vi wr=>∃k:Nat,k<=l.length/\vi=.int .i64 (k:Int)/\wr.ownsRow w.heap.size 5 1 v (2*k) (bytesV (hexL (l.take k)))/\Below w.heap.size w wr) (fun _ vi _=>l.length-(intOf vi).toNat)
 case atStart=>exact⟨0,by omega,rfl,World.ownsRow_nil _ _ _ _,Below.refl _ _⟩
 case round =>
  obtain⟨k,hk,rfl,hown,hbel⟩:=hrel
  obtain⟨A3,c3,rfl,_⟩:=own_row hown
  have HO:=Lib.hid hown
  have HB:=Lib.hid hbel
  clear hown hbel
  by_cases hlt:k<l.length
  ·have i1:(k:Int)<(l.length:Int):=by omega
   obtain⟨bb,off,rfl,hbb,hcc⟩:=(HR.out.below HB.out).at (k:=k) (by rw[List.length_map];exact hlt)
   have c0:=hcc k (.int .u8 (num (l[k]'hlt))) (by simp[hlt])
   have HC:=Lib.hid c0
   clear hcc
   have hn0:0<=num (l[k]'hlt):=by simp only[num];omega
   have hn1:num (l[k]'hlt)<256:=by simp only[num];have:=(l[k]'hlt).toNat_lt;omega
   obtain⟨c,hc⟩:∃c,l[k]'hlt=c:=⟨_,rfl⟩
   have HCE:=Lib.hid (show hexL (l.take (k+1))=hexL (l.take k) ++ [hexS (c.toNat / 16),hexS (c.toNat % 16)] from by
    rw[List.take_succ_eq_append_getElem hlt,hc];simp[hexL])
   rw[hc]at c0 HC hn0 hn1
   clear hc
   obtain⟨d1,hd1⟩:∃d1,c.toNat / 16=d1:=⟨_,rfl⟩
   obtain⟨d2,hd2⟩:∃d2,c.toNat % 16=d2:=⟨_,rfl⟩
   rw[hd1,hd2]at HCE
   have hcl:=c.toNat_lt
   have q1:d1<16:=by omega
   have q2:d2<16:=by omega
   have e1:IntKind.u8.wrap ((num c).tdiv 16)=(d1:Int):=by
    have:(num c).tdiv 16=(d1:Int):=by simp only[num];rw[Int.tdiv_eq_ediv_of_nonneg (by omega)];omega
    rw[this];exact IntWalk.u8_in _ (by omega)
   have e2:(num c).tmod 16=(d2:Int):=by simp only[num];rw[Int.tmod_eq_emod_of_nonneg (by omega)];omega
   have g1:∀(h:d1<(⟨#[48,49,50,51,52,53,54,55,56,57,97,98,99,100,101,102]⟩:ByteArray).size),(⟨#[48,49,50,51,52,53,54,55,56,57,97,98,99,100,101,102]⟩:ByteArray)[d1]'h=hexS d1:=fun h=>hex_at d1 q1
   have g2:∀(h:d2<(⟨#[48,49,50,51,52,53,54,55,56,57,97,98,99,100,101,102]⟩:ByteArray).size),(⟨#[48,49,50,51,52,53,54,55,56,57,97,98,99,100,101,102]⟩:ByteArray)[d2]'h=hexS d2:=fun h=>hex_at d2 q2
   have q1':(d1:Int)<16:=by omega
   have q2':(d2:Int)<16:=by omega
   clear hd1 hd2
   generalize num c=cv at *
   go_upto_region 5 with fail
   go_region_law (refine step_pour el_u8 (by rfl) (.tmp 11) (.tmp 24) (by rfl) (base:=w.heap.size) (v:=.slice A3 (2*k) c3) (n:=2*k) (xs:=bytesV (hexL (l.take k))) (HO.out.drew.alloc _) (by rfl) (A:=some ⟨wr.drew.heap.size,0,none⟩) (m:=2) (c:=2) (by rfl) (row_block (heap_alloc_new wr.drew _)) (by rfl) (by simp[Value.oneCell']) (by intro h;cases h) (by omega) (by unfold maxLen;omega) (by simp;have:=HB.out.size;omega) ?_;intro v4 w4 hown4 hg4 hat4)
   all_goals
    have HB4:=Lib.hid ((HB.out.drew.alloc HB.out.size (.cells #[.int .u8 (num (hexS d1)),.int .u8 (num (hexS d2))] 5)).grown hg4 (by simp;have:=HB.out.size;omega) (by intro g hg;exact(HO.out.lt g hg).1))
    go_wp2_with fail
    go_roundw
    case rel=>exact⟨k+1,by omega,by go_num,by rw[HCE.out];simpa[Nat.mul_add] using hown4,HB4.out⟩
    case measure=>simp[intOf]<;>omega
  ·obtain rfl:k=l.length:=by omega
   have hcv:(convert 50 9 (.slice A3 (2*l.length) c3)).run Tryz.prog wr=.ok (.string (ofL (hexL l))) wr:=by
    refine conv_bytR 9 Tryz.underlying9 (base:=w.heap.size) ?_
    have h2:=HO.out
    rw[List.take_length]at h2
    rw[hexL_length]
    exact h2
   clear HO
   go_wp2_with fail
   go_ret
   exact⟨rfl,HB.out⟩
theorem hexS_back(c:UInt8):hexV (hexS (c.toNat / 16))=c.toNat / 16/\hexV (hexS (c.toNat % 16))=c.toNat % 16:=by
 have h:∀k:Fin 256,hexV (hexS (k.val / 16))=k.val / 16/\hexV (hexS (k.val%16))=k.val%16:=by decide +kernel
 exact h ⟨c.toNat,c.toNat_lt⟩
theorem hexS_to(c:UInt8)(h:hexC c=true):hexS (hexV c)=c/\hexV c<16:=by
 have h2:∀k:Fin 256,hexC (UInt8.ofNat k.val)=true->hexS (hexV (UInt8.ofNat k.val))=UInt8.ofNat k.val/\hexV (UInt8.ofNat k.val)<16:=by decide +kernel
 have:=h2 ⟨c.toNat,c.toNat_lt⟩
 simp only[UInt8.ofNat_toNat]at this
 exact this h
theorem unhex_hex:∀(a:Bs),unhexL (hexL a)=a
 | []=>rfl
 | c::r=>by
  show unhexL (hexS (c.toNat / 16)::hexS (c.toNat % 16)::hexL r)=c::r
  rw[unhexL,unhex_hex r,(hexS_back c).1,(hexS_back c).2,show 16*(c.toNat / 16)+c.toNat % 16=c.toNat by omega]
  simp
theorem hex_unhex:∀(t:Bs),t.length%2=0->t.all hexC=true->hexL (unhexL t)=t
 | [],_,_=>rfl
 | [c],h,_=>by simp at h
 | c::d::r,h,ha=>by
  simp only[List.all_cons,Bool.and_eq_true]at ha
  obtain⟨h1,h2,h3⟩:=ha
  obtain⟨e1,l1⟩:=hexS_to c h1
  obtain⟨e2,l2⟩:=hexS_to d h2
  have ih:=hex_unhex r (by simp at h;omega) h3
  have e:(UInt8.ofNat (16*hexV c+hexV d)).toNat = 16*hexV c+hexV d:=by
   rw[UInt8.toNat_ofNat'];omega
  show hexL (UInt8.ofNat (16*hexV c+hexV d)::unhexL r)=c::d::r
  show hexS ((UInt8.ofNat (16*hexV c+hexV d)).toNat / 16)::hexS ((UInt8.ofNat (16*hexV c+hexV d)).toNat % 16)::hexL (unhexL r)=_
  rw[e,show(16*hexV c+hexV d) / 16=hexV c by omega,show(16*hexV c+hexV d)%16=hexV d by omega,e1,e2,ih]
theorem hex_eq{a t:Bs}(ht:authB t=true):(hexL a==t)=(a==unhexL t):=by
 unfold authB at ht
 simp only[Bool.and_eq_true,decide_eq_true_eq]at ht
 rw[Bool.eq_iff_iff,beq_iff_eq,beq_iff_eq]
 constructor
 ·intro h;rw[<-h,unhex_hex]
 ·intro h;rw[h,hex_unhex t (by omega) ht.2]
set_option maxHeartbeats 4000000 in
set_option maxRecDepth 100000 in
theorem rf_h_auth{x:InS}{IC:Array Value}{A:Option Addr}{gc:Nat}(h:InV x IC A gc){t:Bs}(ht:authB t=true)(w:World) :
  Calls Tryz.prog 40 #[.agg (xC 116 (.slice none 0 0) (ofL wAuthor) (ofL wIs) 0 (ofL t)),.agg IC] w (HoP (x.author==unhexL t) w):=by
 obtain⟨TS,hTS⟩:∃TS,ofL t=TS:=⟨_,rfl⟩
 obtain⟨FS,hFS⟩:∃FS,ofL wAuthor=FS:=⟨_,rfl⟩
 have f0:(FS.toList == [97,103,101])=false:=by rw[<-hFS,act_eq];decide
 have f1:(FS.toList == [98,121,116,101,115])=false:=by rw[<-hFS,act_eq];decide
 have f2:(FS.toList == [108,105,110,101,115])=false:=by rw[<-hFS,act_eq];decide
 have f3:(FS.toList == [100,101,112,116,104])=false:=by rw[<-hFS,act_eq];decide
 have f4:(FS.toList == [97,110,115,119,101,114,115])=false:=by rw[<-hFS,act_eq];decide
 have f5:(FS.toList == [97,117,116,104,111,114])=true:=by rw[<-hFS,act_eq];decide
 rw[hTS,hFS]
 clear hFS
 have HX:=Lib.hid (HoX.start w (xC 116 (.slice none 0 0) FS (ofL wIs) 0 TS) IC)
 have hr:∀W,HoX w (xC 116 (.slice none 0 0) FS (ofL wIs) 0 TS) IC W->Row W (some ⟨w.heap.size+1,3,none⟩) (bytesV x.author):=fun W hx=>Row.mk _ _ _ _ (heap_lt hx.ibox) fun j v hv=>by
  have hj:j<x.author.length:=by have:=(List.getElem?_eq_some_iff.1 hv).1;simpa using this
  have h2:v=.int .u8 (num x.author[j]):=by
   rw[List.getElem?_eq_getElem (by simpa using hj)]at hv
   injection hv with hv
   rw[<-hv];simp
  rw[h2]
  exact inr_cell hx.ibox (h.cau j hj)
 have HV:=Lib.hid (show((ofL (hexL x.author)).toList==TS.toList)=(x.author==unhexL t) from by
  rw[<-hTS,ByteArray.toList_eq,ByteArray.toList_eq]
  exact hex_eq ht)
 have hau:=h.au
 have HH:=Lib.hid (fun W (hx:HoX w (xC 116 (.slice none 0 0) FS (ofL wIs) 0 TS) IC W)=>show Calls Tryz.prog 66 #[.slice (some ⟨w.heap.size+1,3,none⟩) 16 16] W fun e w'=>e=.returned (.string (ofL (hexL x.author)))/\Below W.heap.size W w' from by
  have:=rf_hex x.author (by omega) (some ⟨w.heap.size+1,3,none⟩) 16 W (hr W hx)
  rwa [hau]at this)
 clear h hTS ht hr hau
 generalize ofL (hexL x.author)=HXS at *
 generalize (x.author==unhexL t)=q at *
 go_enter Tryz.func40,Tryz.ntmps40
 go_upto_region 1 with fail
 generalize (w.alloc (.cells (xC 116 (.slice none 0 0) FS (ofL wIs) 0 TS) 57)).alloc (.cells IC 35)=W at *
 obtain⟨x0,x1,x2,x3,x4,x5,xf,xw⟩:=xBox_cells HX.out.box
 have HB:=Lib.hid HX.out.bel
 have hz:w.heap.size+1<W.heap.size:=heap_lt HX.out.ibox
 go_upto_region 25 with fail
 have HHD:=Lib.hid (HH.out W.drew HX.out.drew)
 have HK:=Lib.hid (show XtP W w.heap.size TS W.drew from⟨x5,(Below.refl _ _).drew⟩)
 go_region_held3 (fun w'=>w'.cell? ⟨w.heap.size,5,none⟩=some (.string TS)/\Below W.heap.size W w')
  (first|exact HK.out|exact XtP.later (by assumption) hb4 (by omega))
  ((go_at_call 66;(with_reducible refine HHD.out.mono ?_);rintro e w4 ⟨rfl,hb4⟩))
 rename_i hS
 go_wp2_with fail
 go_ret
 exact⟨ret_bool HV.out,HB.out.trans (hS.2.mono HB.out.size)⟩
abbrev GrP(W:World)(q pb:Nat)(TS:ByteArray)(A:Option Addr)(nn cc:Nat)(S:Value)(bb o:Nat)(g:ByteArray)(wx:World):Prop :=
 wx.cell? ⟨pb,0,none⟩=some (.string TS)/\wx.cell? ⟨pb,1,none⟩=some (.slice A nn cc)/\wx.cell? ⟨q,19,none⟩=some S/\wx.cell? ⟨bb,o,none⟩=some (.string g)/\Below W.heap.size W wx
theorem GrP.later{W wx wy:World}{q pb:Nat}{TS:ByteArray}{A:Option Addr}{nn cc:Nat}{S:Value}{bb o:Nat}{g:ByteArray}(h:GrP W q pb TS A nn cc S bb o g wx)(hb:Below wx.heap.size wx wy)(h1:pb<W.heap.size)(h2:q<W.heap.size)(h3:bb<W.heap.size):GrP W q pb TS A nn cc S bb o g wy:=by
 have hz:=h.2.2.2.2.size
 exact⟨(hb.cell (p:=⟨pb,0,none⟩) (Nat.lt_of_lt_of_le h1 hz)).trans h.1,(hb.cell (p:=⟨pb,1,none⟩) (Nat.lt_of_lt_of_le h1 hz)).trans h.2.1,(hb.cell (p:=⟨q,19,none⟩) (Nat.lt_of_lt_of_le h2 hz)).trans h.2.2.1,(hb.cell (p:=⟨bb,o,none⟩) (Nat.lt_of_lt_of_le h3 hz)).trans h.2.2.2.1,h.2.2.2.2.trans (hb.mono hz)⟩
set_option maxHeartbeats 4000000 in
set_option maxRecDepth 100000 in
theorem rf_h_grp{x:InS}{IC:Array Value}{G:Option Addr}{gc:Nat}(h:InV x IC G gc){t:Bs}(ht:(compF t).2.2=0)(htl:t.length<=1000000)(w:World)(hg:Row w G (strsL x.groups)) :
  Calls Tryz.prog 40 #[.agg (xC 116 (.slice none 0 0) (ofL wGroup) (ofL wIs) 0 (ofL t)),.agg IC] w (HoP (x.groups.any fun g=>matchF (compF t).1 g) w):=by
 obtain⟨TS,hTS⟩:∃TS,ofL t=TS:=⟨_,rfl⟩
 obtain⟨FS,hFS⟩:∃FS,ofL wGroup=FS:=⟨_,rfl⟩
 have f0:(FS.toList == [97,103,101])=false:=by rw[<-hFS,act_eq];decide
 have f1:(FS.toList == [98,121,116,101,115])=false:=by rw[<-hFS,act_eq];decide
 have f2:(FS.toList == [108,105,110,101,115])=false:=by rw[<-hFS,act_eq];decide
 have f3:(FS.toList == [100,101,112,116,104])=false:=by rw[<-hFS,act_eq];decide
 have f4:(FS.toList == [97,110,115,119,101,114,115])=false:=by rw[<-hFS,act_eq];decide
 have f5:(FS.toList == [97,117,116,104,111,114])=false:=by rw[<-hFS,act_eq];decide
 have f6:(FS.toList == [103,114,111,117,112])=true:=by rw[<-hFS,act_eq];decide
 have hcl:=(compF_len t).1
 have hok:=compF_ok t
 have hTt:toL TS=t:=by rw[<-hTS,toL_ofL]
 have hts:TS.size<=1000000:=by rw[<-hTS,ofL_size];exact htl
 have HC:=Lib.hid (fun (wx:World)=>(rf_compile TS wx hts).mono (R':=fun e w'=>∃A cc,e=.returned (.tuple #[.agg #[.string TS,.slice A (compF t).1.length cc],.int .i64 ((compF t).2.1:Nat),.int .i64 0])/\RPat w' TS (compF t).1 (.agg #[.string TS,.slice A (compF t).1.length cc])/\Below wx.heap.size wx w') (fun e w' hp=>by
  obtain⟨v,h1,h2,h3⟩:=hp
  rw[hTt]at h1 h2
  rcases h2 with⟨_,hp2⟩|⟨h2,_⟩
  ·obtain⟨A,c,rfl,_⟩:=id hp2
   rw[ht]at h1
   exact⟨A,c,h1,hp2,h3⟩
  ·exact absurd ht h2))
 rw[hTS,hFS]
 have HX:=Lib.hid (HoX.start w (xC 116 (.slice none 0 0) FS (ofL wIs) 0 TS) IC)
 have HI:=Lib.hid h
 have HM:=Lib.hid (fun (v:Value) (s:ByteArray) (wx:World) (hp:RPat wx TS (compF t).1 v) (hs:s.size<=100000)=>rf_match v TS (compF t).1 s wx hp (by omega) hok hs)
 have hgn:=h.gn
 have HGS:=Lib.hid h.gs
 have HG:=Lib.hid hg
 obtain⟨R,hR⟩:∃R,(x.groups.any fun g=>matchF (compF t).1 g)=R:=⟨_,rfl⟩
 have HR:=Lib.hid hR
 rw[hR]
 clear h hTS hFS ht htl hg hok hTt hR hcl
 generalize (compF t).1=es at *
 generalize (compF t).2.1=ne at *
 obtain⟨gs,hgs⟩:∃gs,x.groups=gs:=⟨_,rfl⟩
 rw[hgs]at hgn HGS HG HR
 have HC19:=Lib.hid (show IC[19]?=some (.slice G gs.length gc) from hgs ▸ HI.out.c19)
 clear hgs HI
 go_enter Tryz.func40,Tryz.ntmps40
 go_upto_region 1 with fail
 generalize (w.alloc (.cells (xC 116 (.slice none 0 0) FS (ofL wIs) 0 TS) 57)).alloc (.cells IC 35)=W at *
 obtain⟨x0,x1,x2,x3,x4,x5,xf,xw⟩:=xBox_cells HX.out.box
 have HB:=Lib.hid HX.out.bel
 have HQ:=Lib.hid (inr_cell HX.out.ibox HC19.out)
 have hz:w.heap.size+1<W.heap.size:=heap_lt HX.out.ibox
 clear HX HC19
 go_upto_region 28 with(go_at_call 67;(with_reducible refine(HC.out _).mono ?_);rintro e w2 ⟨A,cc,rfl,hp2,hb2⟩;have HP2:=Lib.hid hp2;have HB2:=Lib.hid hb2;have hz2:=hb2.size;clear hp2 hb2)
 have HB3:=Lib.hid (alloc_bel w2 (.cells #[.string TS,.slice A es.length cc] 137))
 have HP3:=Lib.hid (HP2.out.below HB3.out)
 have hz3:=HB3.out.size
 have HQ3:=Lib.hid (((HB2.out.trans (HB3.out.mono hz2)).cell (p:=⟨w.heap.size+1,19,none⟩) hz).trans HQ.out)
 have HG3:=Lib.hid ((HG.out.below HB.out).below (HB2.out.trans (HB3.out.mono hz2)))
 have HBW:=Lib.hid (HB.out.trans ((HB2.out.trans (HB3.out.mono hz2)).mono HB.out.size))
 have HPB:=Lib.hid (heap_alloc_new w2 (.cells #[.string TS,.slice A es.length cc] 137))
 clear x0 x1 x2 x3 x4 x5 xf xw HP2 HB HQ HG HB2 HB3
 generalize w2.alloc (.cells #[.string TS,.slice A es.length cc] 137)=W3 at *
 generalize w2.heap.size=pb at *
 have hpz:pb<W3.heap.size:=heap_lt HPB.out
 have hqz:w.heap.size+1<W3.heap.size:=by omega
 go_wp2_with fail
 go_loopw [10] (fun vi wr=>∃i:Nat,i<=gs.length/\vi=.int .i64 (i:Int)/\Below W3.heap.size W3 wr/\((gs.drop i).any fun g=>matchF es g)=R) (fun vi _=>gs.length-(intOf vi).toNat)
 case atStart=>exact⟨0,by omega,rfl,Below.refl _ _,HR.out⟩
 case round =>
  obtain⟨i,hi,rfl,hb,ha⟩:=hrel
  have HBR:=Lib.hid hb
  have HA:=Lib.hid ha
  have hzr:=hb.size
  have c19:=(hb.cell (p:=⟨w.heap.size+1,19,none⟩) hqz).trans HQ3.out
  have hQr:=Lib.hid c19
  clear hb ha HR
  have i0:(0:Int)<=(i:Int):=by omega
  by_cases hlt:i<gs.length
  ·have i1:(i:Int)<(gs.length:Int):=by omega
   obtain⟨bb,off,rfl,hbb,hcc⟩:=(HG3.out.below HBR.out).at (k:=i) (by rw[List.length_map];exact hlt)
   have c0:=hcc i (.string (ofL (gs[i]'hlt))) (by simp[hlt])
   have HC0:=Lib.hid c0
   have hgl:(gs[i]'hlt).length<=1000:=HGS.out _ (List.getElem_mem hlt)
   have HD:=Lib.hid (show(gs.drop i).any (fun g=>matchF es g)=(matchF es (gs[i]'hlt) || (gs.drop (i+1)).any fun g=>matchF es g) from by rw[List.drop_eq_getElem_cons hlt,List.any_cons])
   obtain⟨g,hg⟩:∃g,gs[i]'hlt=g:=⟨_,rfl⟩
   rw[hg]at c0 HC0 hgl HD
   clear hcc hg
   obtain⟨GS,hGS⟩:∃GS,ofL g=GS:=⟨_,rfl⟩
   rw[hGS]at c0 HC0
   have hgz:GS.size<=100000:=by rw[<-hGS,ofL_size];omega
   obtain⟨m,hm⟩:∃m,matchF es g=m:=⟨_,rfl⟩
   have HMM:=Lib.hid (fun wx (hx:GrP wr (w.heap.size+1) pb TS A es.length cc (.slice (some ⟨bb,off,none⟩) gs.length gc) bb (off+i) GS wx)=>show Calls Tryz.prog 68 #[.agg #[.string TS,.slice A es.length cc],.string GS] wx fun e w'=>e=.returned (.bool m)/\Below wx.heap.size wx w' from by
    have hmm:matchF es (toL GS)=m:=by rw[<-hGS,toL_ofL,hm]
    have:=HM.out _ GS wx ((HP3.out.below HBR.out).below hx.2.2.2.2) hgz
    rw[hmm]at this
    exact this)
   rw[hm]at HD
   rw[HD.out]at HA
   have hpr:=Nat.lt_of_lt_of_le hpz hzr
   have hqr:=Nat.lt_of_lt_of_le hqz hzr
   have hPB:=(HBR.out.block pb hpz).trans HPB.out
   have p0:wr.cell? ⟨pb,0,none⟩=some (.string TS):=by rw[Lib.cell_of_heap hPB];rfl
   have p1:wr.cell? ⟨pb,1,none⟩=some (.slice A es.length cc):=by rw[Lib.cell_of_heap hPB];rfl
   have HK:=Lib.hid (show GrP wr (w.heap.size+1) pb TS A es.length cc (.slice (some ⟨bb,off,none⟩) gs.length gc) bb (off+i) GS wr.drew from⟨p0,p1,c19,c0,(Below.refl _ _).drew⟩)
   clear hGS hm hPB HD
   go_upto_region 31 with fail
   clear p0 p1 c0 c19
   go_region_held3 (fun w'=>w'.cell? ⟨pb,0,none⟩=some (.string TS)/\w'.cell? ⟨pb,1,none⟩=some (.slice A es.length cc)/\w'.cell? ⟨w.heap.size+1,19,none⟩=some (.slice (some ⟨bb,off,none⟩) gs.length gc)/\w'.cell? ⟨bb,off+i,none⟩=some (.string GS)/\Below wr.heap.size wr w')
    (first|exact HK.out|exact GrP.later (by assumption) hb5 hpr hqr hbb)
    ((go_at_call 68;(with_reducible refine(HMM.out _ ?hh).mono ?_);(case hh=>assumption);rintro e w5 ⟨rfl,hb5⟩))
   all_goals
    rename_i hS
    have HB5:=Lib.hid (HBR.out.trans (hS.2.2.2.2.mono hzr))
    clear hS
    cases m with
    | true =>
     rw[Bool.true_or]at HA
     go_wp2_with fail
     go_ret
     exact⟨ret_bool HA.out,HBW.out.trans (HB5.out.mono HBW.out.size)⟩
    | false =>
     rw[Bool.false_or]at HA
     go_wp2_with fail
     go_roundw
     case rel=>exact⟨i+1,by omega,by go_num,HB5.out,HA.out⟩
     case measure=>simp[intOf]<;>omega
  ·have i1:¬ (i:Int)<(gs.length:Int):=by omega
   have HF:=Lib.hid (show R=false from by rw[<-HA.out,List.drop_eq_nil_of_le (by omega)];rfl)
   go_wp2_with fail
   go_ret
   exact⟨ret_bool HF.out.symm,HBW.out.trans (HBR.out.mono HBW.out.size)⟩
def OkInR(w:World)(v:Value):Prop := ∃u,(Instr.loadAt 35 v).run Tryz.prog w=.ok u w
noncomputable def inOfR(w:World)(v:Value):Value:=by
 classical exact if h:OkInR w v then h.choose else undef
theorem inR_of{w:World}{v u:Value}(h:(Instr.loadAt 35 v).run Tryz.prog w=.ok u w):OkInR w v/\inOfR w v=u:=by
 have hk:OkInR w v:=⟨u,h⟩
 refine⟨hk,?_⟩
 have h2:=h.symm.trans hk.choose_spec
 unfold inOfR
 rw[dif_pos hk]
 injection h2 with h2 _
 exact h2.symm
theorem wp_load_inR{d:Option Tmp}{ty:TypeId}{pos:String}{af:Array Edge}{x:Operand}{a:Act}{w:World}{K:Act->World->Prop}{Q:Exit->Act->World->Prop}{g:Option (Nat × Bool)}(h:OkInR w (a.eval x)) :
  Oper.wp Tryz.prog { dst:=d,op:=.load 35 x,type:=ty,pos:=pos,after:=af,guard:=g } a w K Q=K (a.put d (inOfR w (a.eval x))) w:=by
 obtain⟨u,hu⟩:=h
 rw[(inR_of hu).2]
 unfold Oper.wp execOp
 simp only[hu,Sem.run_bind,Sem.run_pure,Result.andThen_ok]
 rfl
theorem size_InR:(Tryz.prog.info? 35).map (·.size)=some 25:=by kernel_rfl
theorem inR_load{w:World}{IC:Array Value}{b:Nat}(h:w.heap[b]?=some (.cells IC 35 (0,0)))(hs:IC.size=25):(Instr.loadAt 35 (.pointer (some ⟨b,0,none⟩))).run Tryz.prog w=.ok (.agg IC) w:=by
 have hr:w.rangeAt b 0 IC.toList:=fun j v hv=>by
  rw[Nat.zero_add,Lib.cell_of_heap h];simpa using hv
 have:=range_loadS (T:=35) hr Tryz.underlying35 rfl (by rw[size_InR];simp[hs])
 simpa using this
abbrev HlP(W:World)(b q:Nat)(k:Int)(L:Value)(bb o:Nat)(k1:Int)(B1:Option Addr)(N1 c1:Nat)(f1 o1:ByteArray)(m1:Int)(t1:ByteArray)(IC:Array Value)(wx:World):Prop :=
 wx.cell? ⟨b,0,none⟩=some (.int .u8 k)/\wx.cell? ⟨b,1,none⟩=some L/\wx.cell? ⟨bb,o,none⟩=some (.int .u8 k1)/\wx.cell? ⟨bb,o+1,none⟩=some (.slice B1 N1 c1)/\wx.cell? ⟨bb,o+2,none⟩=some (.string f1)/\wx.cell? ⟨bb,o+3,none⟩=some (.string o1)/\wx.cell? ⟨bb,o+4,none⟩=some (.int .i64 m1)/\wx.cell? ⟨bb,o+5,none⟩=some (.string t1)/\OkInR wx (.pointer (some ⟨q,0,none⟩))/\inOfR wx (.pointer (some ⟨q,0,none⟩))=.agg IC/\Below W.heap.size W wx
attribute [local go_sem ↓] wp_load_inR
set_option maxHeartbeats 4000000 in
set_option maxRecDepth 100000 in
theorem rf_h_neg{IC:Array Value}(hs:IC.size=25){w:World}{bb o cp:Nat}{k1:Int}{B1:Option Addr}{N1 c1:Nat}{f1 o1:ByteArray}{m1:Int}{t1:ByteArray}{q:Bool}(hr:Row w (some ⟨bb,o,none⟩) (xC k1 (.slice B1 N1 c1) f1 o1 m1 t1).toList)(hbz:bb<w.heap.size)
  (hc:∀wx,Below w.heap.size w wx->Calls Tryz.prog 40 #[.agg (xC k1 (.slice B1 N1 c1) f1 o1 m1 t1),.agg IC] wx (HoP q wx)) :
  Calls Tryz.prog 40 #[.agg (xC 110 (.slice (some ⟨bb,o,none⟩) 1 cp) ⟨#[]⟩ ⟨#[]⟩ 0 ⟨#[]⟩),.agg IC] w (HoP (!q) w):=by
 have HX:=Lib.hid (HoX.start w (xC 110 (.slice (some ⟨bb,o,none⟩) 1 cp) ⟨#[]⟩ ⟨#[]⟩ 0 ⟨#[]⟩) IC)
 have HC:=Lib.hid hc
 have HR:=Lib.hid hr
 have HSZ:=Lib.hid hs
 clear hc hr hs
 go_enter Tryz.func40,Tryz.ntmps40
 go_upto_region 1 with fail
 generalize (w.alloc (.cells (xC 110 (.slice (some ⟨bb,o,none⟩) 1 cp) ⟨#[]⟩ ⟨#[]⟩ 0 ⟨#[]⟩) 57)).alloc (.cells IC 35)=W at *
 obtain⟨x0,x1,x2,x3,x4,x5,xf,xw⟩:=xBox_cells HX.out.box
 have HB:=Lib.hid HX.out.bel
 have HIB:=Lib.hid HX.out.ibox
 have hz:w.heap.size+1<W.heap.size:=heap_lt HX.out.ibox
 have hbz2:=Nat.lt_of_lt_of_le hbz HB.out.size
 have HRW:=Lib.hid (HR.out.below HB.out)
 go_upto_region 3 with fail
 have HK:=Lib.hid (show HlP W w.heap.size (w.heap.size+1) 110 (.slice (some ⟨bb,o,none⟩) 1 cp) bb o k1 B1 N1 c1 f1 o1 m1 t1 IC W.drew from by
  have hh:∀j v,(xC k1 (.slice B1 N1 c1) f1 o1 m1 t1).toList[j]?=some v->W.cell? ⟨bb,o+j,none⟩=some v:=by
   rcases HRW.out with h0|⟨b1,o1,e,_,h0⟩
   ·cases h0
   ·injection e with e;injection e with e1 e2;subst e1;subst e2;exact h0
  exact⟨x0,x1,hh 0 _ rfl,hh 1 _ rfl,hh 2 _ rfl,hh 3 _ rfl,hh 4 _ rfl,hh 5 _ rfl,(inR_of (inR_load (w:=W.drew) HIB.out HSZ.out)).1,(inR_of (inR_load (w:=W.drew) HIB.out HSZ.out)).2,(Below.refl _ _).drew⟩)
 clear x0 x1 x2 x3 x4 x5
 obtain⟨a0,a1,e0,e1,e2,e3,e4,e5,k1',k2',_⟩:=HK.out
 go_region_law ((go_simp;go_at_call 40;(with_reducible refine(HC.out _ HB.out.drew).mono ?_);rintro e w5 ⟨rfl,hb5⟩;dsimp only))
 all_goals
  have HB5:=Lib.hid (HB.out.drew.trans (hb5.mono HB.out.size))
  go_wp2_with fail
  go_ret
  exact⟨rfl,HB5.out⟩
theorem flat6_either{vs:List (Array Value)}(h:∀(i:Nat) (hi:i<vs.length),(vs[i]'hi).size=6):∀(i:Nat) (hi:i<vs.length) (j:Nat),j<6->(vs.flatMap (·.toList))[i*6+j]?=(vs[i]'hi)[j]?:=by
 induction vs with
 | nil=>intro i hi;simp at hi
 | cons v r ih =>
  intro i hi j hj
  have hv:v.size=6:=h 0 (by simp)
  cases i with
  | zero =>
   simp only[List.flatMap_cons,List.getElem_cons_zero]
   rw[List.getElem?_append_left (by simp[hv];exact hj)];simp
  | succ i =>
   have:=ih (fun i hi=>h (i+1) (by simpa using hi)) i (by simpa using hi) j hj
   simp only[List.flatMap_cons,List.getElem_cons_succ]
   rw[<-this,List.getElem?_append_right (by simp[hv];omega)]
   congr 1;simp[hv];omega
set_option maxHeartbeats 8000000 in
set_option maxRecDepth 100000 in
theorem rf_h_either{IC:Array Value}(hs:IC.size=25){w:World}{vs:List (Array Value)}{qs:List Bool}(bb off n cp:Nat)(hn:vs.length=n)(hl:vs.length=qs.length)(hm:vs.length<=2000000)(hr:Row w (some ⟨bb,off,none⟩) (vs.flatMap (·.toList)))
  (hf:∀(i:Nat) (hi:i<vs.length),∃k1 B1 N1 c1 f1 o1 m1 t1,vs[i]=(xC k1 (.slice B1 N1 c1) f1 o1 m1 t1))
  (hc:∀(i:Nat) (h1:i<vs.length) (h2:i<qs.length) (wx:World),Below w.heap.size w wx->Calls Tryz.prog 40 #[.agg vs[i],.agg IC] wx (HoP qs[i] wx)) :
  Calls Tryz.prog 40 #[.agg (xC 111 (.slice (some ⟨bb,off,none⟩) n cp) ⟨#[]⟩ ⟨#[]⟩ 0 ⟨#[]⟩),.agg IC] w (HoP (qs.any id) w):=by
 subst hn
 have HX:=Lib.hid (HoX.start w (xC 111 (.slice (some ⟨bb,off,none⟩) vs.length cp) ⟨#[]⟩ ⟨#[]⟩ 0 ⟨#[]⟩) IC)
 have HC:=Lib.hid hc
 have HR:=Lib.hid hr
 have HF:=Lib.hid hf
 have HL:=Lib.hid hl
 have HSZ:=Lib.hid hs
 have HF6:=Lib.hid (flat6_either (vs:=vs) (fun i hi=>by obtain⟨_,_,_,_,_,_,_,_,e⟩:=hf i hi;rw[e];rfl))
 obtain⟨R,hRR⟩:∃R,qs.any id=R:=⟨_,rfl⟩
 have HRR:=Lib.hid hRR
 rw[hRR]
 clear hc hr hs hf hl hRR
 go_enter Tryz.func40,Tryz.ntmps40
 go_upto_region 1 with fail
 generalize (w.alloc (.cells (xC 111 (.slice (some ⟨bb,off,none⟩) vs.length cp) ⟨#[]⟩ ⟨#[]⟩ 0 ⟨#[]⟩) 57)).alloc (.cells IC 35)=W at *
 obtain⟨x0,x1,x2,x3,x4,x5,xf,xw⟩:=xBox_cells HX.out.box
 have HB:=Lib.hid HX.out.bel
 have HXB:=Lib.hid HX.out.box
 have HIB:=Lib.hid HX.out.ibox
 have hz:w.heap.size+1<W.heap.size:=heap_lt HX.out.ibox
 go_wp2_with fail
 clear x0 x1 x2 x3 x4 x5 xf xw HX
 go_loopw [5] (fun vi wr=>∃i:Nat,i<=vs.length/\vi=.int .i64 (i:Int)/\Below W.heap.size W wr/\(qs.drop i).any id=R) (fun vi _=>vs.length-(intOf vi).toNat)
 case atStart=>exact⟨0,by omega,rfl,Below.refl _ _,HRR.out⟩
 case round =>
  obtain⟨i,hi,rfl,hb,ha⟩:=hrel
  have HBR:=Lib.hid hb
  have HA:=Lib.hid ha
  have hzr:=hb.size
  have HXR:=Lib.hid ((hb.block w.heap.size (by omega)).trans HXB.out)
  have HIR:=Lib.hid ((hb.block (w.heap.size+1) hz).trans HIB.out)
  obtain⟨x0,x1,x2,x3,x4,x5,xf,xw⟩:=xBox_cells HXR.out
  clear hb ha HRR
  have i0:(0:Int)<=(i:Int):=by omega
  by_cases hlt:i<vs.length
  ·have i1:(i:Int)<(vs.length:Int):=by omega
   have hlq:i<qs.length:=HL.out ▸ hlt
   have HD:=Lib.hid (show qs.drop i=(qs[i]'hlq)::qs.drop (i+1) from List.drop_eq_getElem_cons hlq)
   rw[HD.out,List.any_cons]at HA
   have HCX:=Lib.hid (HC.out i hlt hlq)
   obtain⟨k1,B1,N1,c1,f1,o1,m1,t1,hv⟩:=HF.out i hlt
   rw[hv]at HCX
   have hE:=fun j hj=>HF6.out i hlt j hj
   rw[hv]at hE
   have hrow:=(HR.out.below HB.out).below HBR.out
   have hfl:0<(vs.flatMap (·.toList)).length:=by
    have:=hE 0 (by omega)
    refine Nat.pos_of_ne_zero fun h0=>?_
    rw[List.eq_nil_of_length_eq_zero h0]at this
    simp at this
   obtain⟨b2,o2,e2,hbz,hcc⟩:=hrow.at (k:=0) hfl
   injection e2 with e2;injection e2 with e3 e4;subst e3;subst e4
   have HK:=Lib.hid (show HlP wr w.heap.size (w.heap.size+1) 111 (.slice (some ⟨bb,off,none⟩) vs.length cp) bb (off+i*6) k1 B1 N1 c1 f1 o1 m1 t1 IC wr.drew from
    ⟨x0,x1,hcc _ _ (hE 0 (by omega)),hcc (i*6+1) _ (hE 1 (by omega)),hcc (i*6+2) _ (hE 2 (by omega)),hcc (i*6+3) _ (hE 3 (by omega)),hcc (i*6+4) _ (hE 4 (by omega)),hcc (i*6+5) _ (hE 5 (by omega)),(inR_of (inR_load (w:=wr.drew) HIR.out HSZ.out)).1,(inR_of (inR_load (w:=wr.drew) HIR.out HSZ.out)).2,(Below.refl _ _).drew⟩)
   have HBW:=Lib.hid (HB.out.trans (HBR.out.mono HB.out.size))
   have hwr:w.heap.size<wr.heap.size:=by omega
   clear hv hE hrow hfl hcc HD
   generalize qs[i]'hlq=q at *
   go_upto_region 9 with fail
   clear x0 x1 x2 x3 x4 x5
   obtain⟨a0,a1,e0,e1,e2,e3,e4,e5,k1',k2',_⟩:=HK.out
   go_region_law ((go_simp;go_at_call 40;(with_reducible refine(HCX.out _ HBW.out.drew).mono ?_);rintro e w5 ⟨rfl,hb5⟩;have y0:=(hb5.cell (p:=⟨w.heap.size,0,none⟩) hwr).trans a0;dsimp only))
   all_goals
    have HB5:=Lib.hid (HBR.out.drew.trans (hb5.mono hzr))
    have y0:=(hb5.cell (p:=⟨w.heap.size,0,none⟩) hwr).trans a0
    clear hb5
    cases q with
    | true =>
     simp only[id,Bool.true_or,Bool.true_and]at HA
     go_wp2_with fail
     go_ret
     exact⟨ret_bool HA.out,HB.out.trans (HB5.out.mono HB.out.size)⟩
    | false =>
     simp only[id,Bool.false_or,Bool.false_and]at HA
     go_wp2_with fail
     go_roundw
     case rel=>exact⟨i+1,by omega,by go_num,HB5.out,HA.out⟩
     case measure=>simp[intOf]<;>omega
  ·have i1:¬ (i:Int)<(vs.length:Int):=by omega
   have HFN:=Lib.hid (show R=false from by rw[<-HA.out,List.drop_eq_nil_of_le (by have:=HL.out;omega)];rfl)
   go_wp2_with fail
   go_ret
   exact⟨ret_bool HFN.out.symm,HB.out.trans (HBR.out.mono HB.out.size)⟩
theorem flat6_both{vs:List (Array Value)}(h:∀(i:Nat) (hi:i<vs.length),(vs[i]'hi).size=6):∀(i:Nat) (hi:i<vs.length) (j:Nat),j<6->(vs.flatMap (·.toList))[i*6+j]?=(vs[i]'hi)[j]?:=by
 induction vs with
 | nil=>intro i hi;simp at hi
 | cons v r ih =>
  intro i hi j hj
  have hv:v.size=6:=h 0 (by simp)
  cases i with
  | zero =>
   simp only[List.flatMap_cons,List.getElem_cons_zero]
   rw[List.getElem?_append_left (by simp[hv];exact hj)];simp
  | succ i =>
   have:=ih (fun i hi=>h (i+1) (by simpa using hi)) i (by simpa using hi) j hj
   simp only[List.flatMap_cons,List.getElem_cons_succ]
   rw[<-this,List.getElem?_append_right (by simp[hv];omega)]
   congr 1;simp[hv];omega
set_option maxHeartbeats 8000000 in
set_option maxRecDepth 100000 in
theorem rf_h_both{IC:Array Value}(hs:IC.size=25){w:World}{vs:List (Array Value)}{qs:List Bool}(bb off n cp:Nat)(hn:vs.length=n)(hl:vs.length=qs.length)(hm:vs.length<=2000000)(hr:Row w (some ⟨bb,off,none⟩) (vs.flatMap (·.toList)))
  (hf:∀(i:Nat) (hi:i<vs.length),∃k1 B1 N1 c1 f1 o1 m1 t1,vs[i]=(xC k1 (.slice B1 N1 c1) f1 o1 m1 t1))
  (hc:∀(i:Nat) (h1:i<vs.length) (h2:i<qs.length) (wx:World),Below w.heap.size w wx->Calls Tryz.prog 40 #[.agg vs[i],.agg IC] wx (HoP qs[i] wx)) :
  Calls Tryz.prog 40 #[.agg (xC 97 (.slice (some ⟨bb,off,none⟩) n cp) ⟨#[]⟩ ⟨#[]⟩ 0 ⟨#[]⟩),.agg IC] w (HoP (qs.all id) w):=by
 subst hn
 have HX:=Lib.hid (HoX.start w (xC 97 (.slice (some ⟨bb,off,none⟩) vs.length cp) ⟨#[]⟩ ⟨#[]⟩ 0 ⟨#[]⟩) IC)
 have HC:=Lib.hid hc
 have HR:=Lib.hid hr
 have HF:=Lib.hid hf
 have HL:=Lib.hid hl
 have HSZ:=Lib.hid hs
 have HF6:=Lib.hid (flat6_both (vs:=vs) (fun i hi=>by obtain⟨_,_,_,_,_,_,_,_,e⟩:=hf i hi;rw[e];rfl))
 obtain⟨R,hRR⟩:∃R,qs.all id=R:=⟨_,rfl⟩
 have HRR:=Lib.hid hRR
 rw[hRR]
 clear hc hr hs hf hl hRR
 go_enter Tryz.func40,Tryz.ntmps40
 go_upto_region 1 with fail
 generalize (w.alloc (.cells (xC 97 (.slice (some ⟨bb,off,none⟩) vs.length cp) ⟨#[]⟩ ⟨#[]⟩ 0 ⟨#[]⟩) 57)).alloc (.cells IC 35)=W at *
 obtain⟨x0,x1,x2,x3,x4,x5,xf,xw⟩:=xBox_cells HX.out.box
 have HB:=Lib.hid HX.out.bel
 have HXB:=Lib.hid HX.out.box
 have HIB:=Lib.hid HX.out.ibox
 have hz:w.heap.size+1<W.heap.size:=heap_lt HX.out.ibox
 go_wp2_with fail
 clear x0 x1 x2 x3 x4 x5 xf xw HX
 go_loopw [5] (fun vi wr=>∃i:Nat,i<=vs.length/\vi=.int .i64 (i:Int)/\Below W.heap.size W wr/\(qs.drop i).all id=R) (fun vi _=>vs.length-(intOf vi).toNat)
 case atStart=>exact⟨0,by omega,rfl,Below.refl _ _,HRR.out⟩
 case round =>
  obtain⟨i,hi,rfl,hb,ha⟩:=hrel
  have HBR:=Lib.hid hb
  have HA:=Lib.hid ha
  have hzr:=hb.size
  have HXR:=Lib.hid ((hb.block w.heap.size (by omega)).trans HXB.out)
  have HIR:=Lib.hid ((hb.block (w.heap.size+1) hz).trans HIB.out)
  obtain⟨x0,x1,x2,x3,x4,x5,xf,xw⟩:=xBox_cells HXR.out
  clear hb ha HRR
  have i0:(0:Int)<=(i:Int):=by omega
  by_cases hlt:i<vs.length
  ·have i1:(i:Int)<(vs.length:Int):=by omega
   have hlq:i<qs.length:=HL.out ▸ hlt
   have HD:=Lib.hid (show qs.drop i=(qs[i]'hlq)::qs.drop (i+1) from List.drop_eq_getElem_cons hlq)
   rw[HD.out,List.all_cons]at HA
   have HCX:=Lib.hid (HC.out i hlt hlq)
   obtain⟨k1,B1,N1,c1,f1,o1,m1,t1,hv⟩:=HF.out i hlt
   rw[hv]at HCX
   have hE:=fun j hj=>HF6.out i hlt j hj
   rw[hv]at hE
   have hrow:=(HR.out.below HB.out).below HBR.out
   have hfl:0<(vs.flatMap (·.toList)).length:=by
    have:=hE 0 (by omega)
    refine Nat.pos_of_ne_zero fun h0=>?_
    rw[List.eq_nil_of_length_eq_zero h0]at this
    simp at this
   obtain⟨b2,o2,e2,hbz,hcc⟩:=hrow.at (k:=0) hfl
   injection e2 with e2;injection e2 with e3 e4;subst e3;subst e4
   have HK:=Lib.hid (show HlP wr w.heap.size (w.heap.size+1) 97 (.slice (some ⟨bb,off,none⟩) vs.length cp) bb (off+i*6) k1 B1 N1 c1 f1 o1 m1 t1 IC wr.drew from
    ⟨x0,x1,hcc _ _ (hE 0 (by omega)),hcc (i*6+1) _ (hE 1 (by omega)),hcc (i*6+2) _ (hE 2 (by omega)),hcc (i*6+3) _ (hE 3 (by omega)),hcc (i*6+4) _ (hE 4 (by omega)),hcc (i*6+5) _ (hE 5 (by omega)),(inR_of (inR_load (w:=wr.drew) HIR.out HSZ.out)).1,(inR_of (inR_load (w:=wr.drew) HIR.out HSZ.out)).2,(Below.refl _ _).drew⟩)
   have HBW:=Lib.hid (HB.out.trans (HBR.out.mono HB.out.size))
   have hwr:w.heap.size<wr.heap.size:=by omega
   clear hv hE hrow hfl hcc HD
   generalize qs[i]'hlq=q at *
   go_upto_region 9 with fail
   clear x0 x1 x2 x3 x4 x5
   obtain⟨a0,a1,e0,e1,e2,e3,e4,e5,k1',k2',_⟩:=HK.out
   go_region_law ((go_simp;go_at_call 40;(with_reducible refine(HCX.out _ HBW.out.drew).mono ?_);rintro e w5 ⟨rfl,hb5⟩;have y0:=(hb5.cell (p:=⟨w.heap.size,0,none⟩) hwr).trans a0;dsimp only))
   all_goals
    have HB5:=Lib.hid (HBR.out.drew.trans (hb5.mono hzr))
    have y0:=(hb5.cell (p:=⟨w.heap.size,0,none⟩) hwr).trans a0
    clear hb5
    cases q with
    | true =>
     simp only[id,Bool.true_or,Bool.true_and]at HA
     go_wp2_with fail
     go_roundw
     case rel=>exact⟨i+1,by omega,by go_num,HB5.out,HA.out⟩
     case measure=>simp[intOf]<;>omega
    | false =>
     simp only[id,Bool.false_or,Bool.false_and]at HA
     go_wp2_with fail
     go_ret
     exact⟨ret_bool HA.out,HB.out.trans (HB5.out.mono HB.out.size)⟩
  ·have i1:¬ (i:Int)<(vs.length:Int):=by omega
   have HFN:=Lib.hid (show R=true from by rw[<-HA.out,List.drop_eq_nil_of_le (by have:=HL.out;omega)];rfl)
   go_wp2_with fail
   go_ret
   exact⟨ret_bool HFN.out.symm,HB.out.trans (HBR.out.mono HB.out.size)⟩
theorem holdsF_at{x:InS}{IC:Array Value}{G:Option Addr}{gc:Nat}(hx:InV x IC G gc){A:Nat->Prop}{w:World}(hA:∀k,A k->k<w.heap.size)(hg:Row w G (strsL x.groups)){c:Cond}{v:Array Value}(h:XIn A w c v):∀wx,Below w.heap.size w wx->Calls Tryz.prog 40 #[.agg v,.agg IC] wx (HoP (holdsF x c) wx):=by
 induction h with
 | @either l vs b off c hl hp hm hb hr hs ih =>
  intro wx hbx
  rw[show holdsF x (.either l)=(l.map (holdsF x)).any id from by rw[holdsF];exact holdsAny_map x l]
  refine rf_h_either hx.size (w:=wx) (vs:=vs) (qs:=l.map (holdsF x)) b off l.length c hl (by simp[hl]) (by omega) (hr.below hbx) (fun i hi=>(hs i (by omega) hi).form2) fun i h1 h2 wy hy=>?_
  have:=ih i (by omega) h1 wy (hbx.trans (hy.mono hbx.size))
  simpa using this
 | @both l vs b off c hl hp hm hb hr hs ih =>
  intro wx hbx
  rw[show holdsF x (.both l)=(l.map (holdsF x)).all id from by rw[holdsF];exact holdsAll_map x l]
  refine rf_h_both hx.size (w:=wx) (vs:=vs) (qs:=l.map (holdsF x)) b off l.length c hl (by simp[hl]) (by omega) (hr.below hbx) (fun i hi=>(hs i (by omega) hi).form2) fun i h1 h2 wy hy=>?_
  have:=ih i (by omega) h1 wy (hbx.trans (hy.mono hbx.size))
  simpa using this
 | @neg c v b off cp hb hr h ih =>
  intro wx hbx
  rw[show holdsF x (.neg c) = !holdsF x c from by rw[holdsF]]
  obtain⟨k,B,N,c1,f,op,n,t,rfl⟩:=h.form2
  exact rf_h_neg hx.size (hr.below hbx) (Nat.lt_of_lt_of_le (hA _ hb) hbx.size) fun wy hy=>ih wy (hbx.trans (hy.mono hbx.size))
 | @cmp f op n hf ho hn =>
  intro wx hbx
  rw[show holdsF x (.cmp f op n)=cmpS (numOf f x) op n from by rw[holdsF]]
  exact rf_h_cmp hx hf ho wx
 | @txt f m t hf hm ht =>
  intro wx hbx
  rw[show holdsF x (.txt f m t)=txtS m (txtOf f x) t from by rw[holdsF]]
  simp only[modesL,List.mem_cons,List.not_mem_nil,or_false]at hm
  rcases hm with rfl|rfl|rfl
  ·exact rf_h_is hx hf ht wx
  ·exact rf_h_has hx hf ht wx
  ·exact rf_h_begins hx hf ht wx
 | @auth t ht =>
  intro wx hbx
  rw[show holdsF x (.auth t)=(x.author==unhexL t) from by rw[holdsF]]
  exact rf_h_auth hx ht wx
 | @grp t ht hl =>
  intro wx hbx
  rw[show holdsF x (.grp t)=(x.groups.any fun g=>matchF (compF t).1 g) from by rw[holdsF]]
  exact rf_h_grp hx ht hl wx (hg.below hbx)
end Go.Proofs.YtannhfnpigiggaaGreatDoor
