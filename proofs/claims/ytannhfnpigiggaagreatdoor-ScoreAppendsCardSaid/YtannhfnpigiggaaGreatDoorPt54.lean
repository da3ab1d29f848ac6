import Derived.Test.YtannhfnpigiggaaGreatDoorPt53
import Derived.Test.YtannhfnpigiggaaGreatDoorPt34
namespace Go.Proofs.YtannhfnpigiggaaGreatDoor
set_option linter.unusedSimpArgs false
set_option linter.unusedVariables false
open Go.RowKit
attribute [local go_sem ↓] wp_load_inR
set_option maxHeartbeats 4000000 in
set_option maxRecDepth 100000 in
theorem rf_applies{x:InS}{IC:Array Value}{G:Option Addr}{gc:Nat}(hx:InV x IC G gc){P:Nat->Prop}{w:World}(hP:∀k,P k->k<w.heap.size)(hg:Row w G (strsL x.groups)){r:RuleS}{k:Int}{B:Option Addr}{N c:Nat}{f op:ByteArray}{n:Int}{t:ByteArray}(hc:condX P w r.cond (xC k (.slice B N c) f op n t))(a:ByteArray)(m u:Int) :
  Calls Tryz.prog 23 #[.agg (rC a m u r.cond.isSome k (.slice B N c) f op n t),.agg IC] w (HoP (appS r x) w):=by
 have HW:=two_new w (.cells (rC a m u r.cond.isSome k (.slice B N c) f op n t) 59) (.cells IC 35)
 have HB:=Lib.hid HW.2.2.1
 have HBX:=Lib.hid HW.1
 have HIX:=Lib.hid HW.2.1
 have HSZ:=Lib.hid hx.size
 clear HW
 cases hr:r.cond with
 | none =>
  rw[hr]at HB HBX HIX
  have HV:=Lib.hid (show appS r x=true from by unfold appS;rw[hr])
  clear hx hP hg hc hr
  simp only[Option.isSome_none]at HB HBX HIX⊢
  rw[HV.out]
  go_enter Tryz.func23,Tryz.ntmps23
  go_upto_region 1 with fail
  generalize (w.alloc (.cells (rC a m u false k (.slice B N c) f op n t) 59)).alloc (.cells IC 35)=W at *
  obtain⟨c0,c1,c2,c3,c4,c5,c6,c7,c8,c9,fz,xw⟩:=rBox_cells HBX.out
  go_wp2_with fail
  go_ret
  exact⟨rfl,HB.out⟩
 | some cd =>
  rw[hr]at HB HBX HIX hc
  have HV:=Lib.hid (show appS r x=holdsF x cd from by unfold appS;rw[hr])
  have HH:=Lib.hid (holdsF_at hx hP hg (show XIn P w cd _ from hc))
  clear hx hP hg hc hr
  simp only[Option.isSome_some]at HB HBX HIX⊢
  rw[HV.out]
  generalize holdsF x cd=q at *
  go_enter Tryz.func23,Tryz.ntmps23
  go_upto_region 1 with fail
  generalize (w.alloc (.cells (rC a m u true k (.slice B N c) f op n t) 59)).alloc (.cells IC 35)=W at *
  obtain⟨c0,c1,c2,c3,c4,c5,c6,c7,c8,c9,fz,xw⟩:=rBox_cells HBX.out
  obtain⟨o1,e1⟩:=inR_of (inR_load HIX.out HSZ.out)
  go_wp2_with ((go_at_call 40;(with_reducible refine(HH.out _ HB.out).mono ?_);rintro e w2 ⟨rfl,hb2⟩;have HB2:=Lib.hid (HB.out.trans (hb2.mono HB.out.size));clear hb2))
  go_ret
  exact⟨rfl,HB2.out⟩
structure RsX(P:Nat->Prop)(w:World)(A:Option Addr)(rs:List RuleS)(vs:List (Array Value)):Prop where
 row:Row w A (vs.flatMap (·.toList))
 len:vs.length=rs.length
 el:∀(i:Nat) (h1:i<rs.length) (h2:i<vs.length),∃k B N c f op n t,vs[i]=rC (ofL rs[i].act) rs[i].amt (tilI rs[i].til) rs[i].cond.isSome k (.slice B N c) f op n t/\condX P w rs[i].cond (xC k (.slice B N c) f op n t)
theorem RsX.below {P : Nat → Prop} {w w' : World} {A : Option Addr} {rs : List RuleS} {vs : List (Array Value)} (h : RsX P w A rs vs) (hP : ∀ k, P k → k < w.heap.size) (hb : Below w.heap.size w w') : RsX P w' A rs vs :=
  ⟨h.row.below hb, h.len, fun i h1 h2 => by
    obtain ⟨k, B, N, c, f, op, n, t, e, hc⟩ := h.el i h1 h2
    exact ⟨k, B, N, c, f, op, n, t, e, hc.keep (fun j hj => hb.block j (hP j hj)) hb.size⟩⟩
theorem flat10{vs:List (Array Value)}(h:∀(i:Nat) (hi:i<vs.length),(vs[i]'hi).size=10):∀(i:Nat) (hi:i<vs.length) (j:Nat),j<10->(vs.flatMap (·.toList))[i*10+j]?=(vs[i]'hi)[j]?:=by
 induction vs with
 | nil=>intro i hi;simp at hi
 | cons v r ih =>
  intro i hi j hj
  have hv:v.size=10:=h 0 (by simp)
  cases i with
  | zero =>
   simp only[List.flatMap_cons,List.getElem_cons_zero]
   rw[List.getElem?_append_left (by simp[hv];exact hj)];simp
  | succ i =>
   have:=ih (fun i hi=>h (i+1) (by simpa using hi)) i (by simpa using hi) j hj
   simp only[List.flatMap_cons,List.getElem_cons_succ]
   rw[<-this,List.getElem?_append_right (by simp[hv];omega)]
   congr 1;simp[hv];omega
theorem RsX.at{P:Nat->Prop}{w:World}{A:Option Addr}{rs:List RuleS}{vs:List (Array Value)}(h:RsX P w A rs vs){i:Nat}(hi:i<rs.length):∃bb off k B N c f op n t,A=some ⟨bb,off,none⟩/\bb<w.heap.size/\condX P w rs[i].cond (xC k (.slice B N c) f op n t) ∧
  w.cell? ⟨bb,off+i*10,none⟩=some (.string (ofL rs[i].act))/\w.cell? ⟨bb,off+i*10+1,none⟩=some (.int .i64 rs[i].amt)/\w.cell? ⟨bb,off+i*10+2,none⟩=some (.int .i64 (tilI rs[i].til))/\w.cell? ⟨bb,off+i*10+3,none⟩=some (.bool rs[i].cond.isSome) ∧
  w.cell? ⟨bb,off+i*10+4,none⟩=some (.int .u8 k)/\w.cell? ⟨bb,off+i*10+5,none⟩=some (.slice B N c)/\w.cell? ⟨bb,off+i*10+6,none⟩=some (.string f)/\w.cell? ⟨bb,off+i*10+7,none⟩=some (.string op)/\w.cell? ⟨bb,off+i*10+8,none⟩=some (.int .i64 n)/\w.cell? ⟨bb,off+i*10+9,none⟩=some (.string t):=by
 have hv:i<vs.length:=by rw[h.len];exact hi
 obtain⟨k,B,N,c,f,op,n,t,e,hc⟩:=h.el i hi hv
 have hE:=fun j hj=>flat10 (vs:=vs) (fun j hj=>by obtain⟨_,_,_,_,_,_,_,_,e,_⟩:=h.el j (by rw[<-h.len];exact hj) hj;rw[e];rfl) i hv j hj
 rw[e]at hE
 have hfl:0<(vs.flatMap (·.toList)).length:=by
  have:=hE 0 (by omega)
  refine Nat.pos_of_ne_zero fun h0=>?_
  rw[List.eq_nil_of_length_eq_zero h0]at this
  simp at this
 obtain⟨bb,off,eA,hbz,hcc⟩:=h.row.at (k:=0) hfl
 exact⟨bb,off,k,B,N,c,f,op,n,t,eA,hbz,hc,hcc _ _ (hE 0 (by omega)),hcc (i*10+1) _ (hE 1 (by omega)),hcc (i*10+2) _ (hE 2 (by omega)),hcc (i*10+3) _ (hE 3 (by omega)),hcc (i*10+4) _ (hE 4 (by omega)),hcc (i*10+5) _ (hE 5 (by omega)),hcc (i*10+6) _ (hE 6 (by omega)),hcc (i*10+7) _ (hE 7 (by omega)),hcc (i*10+8) _ (hE 8 (by omega)),hcc (i*10+9) _ (hE 9 (by omega))⟩
theorem out_retR{Q:Ending->World->Prop}{W:World}{r:Nat}{o:OutS}{T:Array Value}(hb:W.heap[r]?=some (.cells (outC o) 61 (0,0)))(t4:T[4]?=some (.pointer (some ⟨r,0,none⟩)))(hQ:Q (.returned (.agg (outC o))) W) :
  bodyPost Tryz.prog Tryz.f25 Q .ret { tmps:=T,defers := [] } W:=by
 have c0:W.cell? ⟨r,0,none⟩=some (.int .i64 o.score):=by rw[Lib.cell_of_heap hb];rfl
 have c1:W.cell? ⟨r,1,none⟩=some (.bool o.killed):=by rw[Lib.cell_of_heap hb];rfl
 have c2:W.cell? ⟨r,2,none⟩=some (.bool o.watched):=by rw[Lib.cell_of_heap hb];rfl
 have c3:W.cell? ⟨r,3,none⟩=some (.int .i64 o.applied):=by rw[Lib.cell_of_heap hb];rfl
 refine bodyPost_ret (v:=.agg (outC o)) ?_ rfl hQ
 simp[results,Tryz.f25,go_sem,t4,c0,c1,c2,c3]
structure RtAtR(w:World)(IC:Array Value)(o:OutS)(wr:World):Prop where
 inp:wr.heap[w.heap.size]?=some (.cells IC 35 (0,0))
 res:wr.heap[w.heap.size+1]?=some (.cells (outC noOut) 61 (0,0))
 loc:wr.heap[w.heap.size+1+1]?=some (.cells (outC o) 61 (0,0))
 bel:Below w.heap.size w wr
section
variable {w wr wx : World} {IC : Array Value} {o : OutS}
theorem RtAtR.below(h:RtAtR w IC o wr)(hb:Below wr.heap.size wr wx):RtAtR w IC o wx :=
 ⟨(hb.block _ (heap_lt h.inp)).trans h.inp,(hb.block _ (heap_lt h.res)).trans h.res,(hb.block _ (heap_lt h.loc)).trans h.loc,h.bel.trans (hb.mono h.bel.size)⟩
theorem RtAtR.set(h:RtAtR w IC o wr){i:Nat}{v:Value}{o':OutS}(hc:(outC o).setIfInBounds i v=outC o'):RtAtR w IC o' (wr.setCell ⟨w.heap.size+1+1,i,none⟩ v) :=
 ⟨(heap_set_ne _ (by omega)).trans h.inp,(heap_set_ne _ (by omega)).trans h.res,by rw[<-hc];exact heap_set h.loc _,h.bel.setCell (p:=⟨w.heap.size+1+1,i,none⟩) (by simp only;omega) v⟩
theorem RtAtR.cells(h:RtAtR w IC o wr):wr.cell? ⟨w.heap.size+1+1,0,none⟩=some (.int .i64 o.score)/\wr.cell? ⟨w.heap.size+1+1,1,none⟩=some (.bool o.killed)/\wr.cell? ⟨w.heap.size+1+1,2,none⟩=some (.bool o.watched)/\wr.cell? ⟨w.heap.size+1+1,3,none⟩=some (.int .i64 o.applied) ∧
  wr.frozen? ⟨w.heap.size+1+1,0,none⟩=false/\wr.frozen? ⟨w.heap.size+1+1,1,none⟩=false/\wr.frozen? ⟨w.heap.size+1+1,2,none⟩=false/\wr.frozen? ⟨w.heap.size+1+1,3,none⟩=false :=
 ⟨by rw[Lib.cell_of_heap h.loc];rfl,by rw[Lib.cell_of_heap h.loc];rfl,by rw[Lib.cell_of_heap h.loc];rfl,by rw[Lib.cell_of_heap h.loc];rfl,Lib.frozen_of_heap h.loc 0,Lib.frozen_of_heap h.loc 1,Lib.frozen_of_heap h.loc 2,Lib.frozen_of_heap h.loc 3⟩
theorem RtAtR.rcells(h:RtAtR w IC o wr):wr.cell? ⟨w.heap.size+1,0,none⟩=some (.int .i64 0)/\wr.cell? ⟨w.heap.size+1,1,none⟩=some (.bool false)/\wr.cell? ⟨w.heap.size+1,2,none⟩=some (.bool false)/\wr.cell? ⟨w.heap.size+1,3,none⟩=some (.int .i64 0) ∧
  wr.frozen? ⟨w.heap.size+1,0,none⟩=false/\wr.frozen? ⟨w.heap.size+1,1,none⟩=false/\wr.frozen? ⟨w.heap.size+1,2,none⟩=false/\wr.frozen? ⟨w.heap.size+1,3,none⟩=false :=
 ⟨by rw[Lib.cell_of_heap h.res];rfl,by rw[Lib.cell_of_heap h.res];rfl,by rw[Lib.cell_of_heap h.res];rfl,by rw[Lib.cell_of_heap h.res];rfl,Lib.frozen_of_heap h.res 0,Lib.frozen_of_heap h.res 1,Lib.frozen_of_heap h.res 2,Lib.frozen_of_heap h.res 3⟩
theorem RtAtR.put(h:RtAtR w IC o wr):((((wr.setCell ⟨w.heap.size+1,0,none⟩ (.int .i64 o.score)).setCell ⟨w.heap.size+1,1,none⟩ (.bool o.killed)).setCell ⟨w.heap.size+1,2,none⟩ (.bool o.watched)).setCell ⟨w.heap.size+1,3,none⟩ (.int .i64 o.applied)).heap[w.heap.size+1]?=some (.cells (outC o) 61 (0,0)) ∧
  Below w.heap.size w ((((wr.setCell ⟨w.heap.size+1,0,none⟩ (.int .i64 o.score)).setCell ⟨w.heap.size+1,1,none⟩ (.bool o.killed)).setCell ⟨w.heap.size+1,2,none⟩ (.bool o.watched)).setCell ⟨w.heap.size+1,3,none⟩ (.int .i64 o.applied)):=by
 have b0:=heap_set h.res (i:=0) (.int .i64 o.score)
 have b1:=heap_set b0 (i:=1) (.bool o.killed)
 have b2:=heap_set b1 (i:=2) (.bool o.watched)
 have b3:=heap_set b2 (i:=3) (.int .i64 o.applied)
 exact⟨b3,(((h.bel.setCell (p:=⟨w.heap.size+1,0,none⟩) (Nat.le_succ _) _).setCell (p:=⟨w.heap.size+1,1,none⟩) (Nat.le_succ _) _).setCell (p:=⟨w.heap.size+1,2,none⟩) (Nat.le_succ _) _).setCell (p:=⟨w.heap.size+1,3,none⟩) (Nat.le_succ _) _⟩
end
theorem RtAtR.new(w:World)(IC:Array Value):RtAtR w IC noOut (((w.alloc (.cells IC 35)).alloc (.cells #[.int .i64 0,.bool false,.bool false,.int .i64 0] 61)).alloc (.cells #[.int .i64 0,.bool false,.bool false,.int .i64 0] 61)):=by
 show RtAtR w IC noOut (((w.alloc (.cells IC 35)).alloc (.cells (outC noOut) 61)).alloc (.cells (outC noOut) 61))
 obtain⟨q0,q1,q2,q3⟩:=two_new w (.cells IC 35) (.cells (outC noOut) 61)
 have hb:=alloc_bel ((w.alloc (.cells IC 35)).alloc (.cells (outC noOut) 61)) (.cells (outC noOut) 61)
 exact⟨(hb.block _ (by omega)).trans q0,(hb.block _ (by omega)).trans q1,by rw[show w.heap.size+1+1=((w.alloc (.cells IC 35)).alloc (.cells (outC noOut) 61)).heap.size from q3.symm];exact heap_alloc_new _ _,q2.trans (hb.mono q2.size)⟩
attribute [local go_sem ↓] wp_load_inR
theorem RtAtR.drew{w wr:World}{IC:Array Value}{o:OutS}(h:RtAtR w IC o wr):RtAtR w IC o wr.drew:=⟨h.inp,h.res,h.loc,h.bel.drew⟩
set_option maxHeartbeats 16000000 in
set_option maxRecDepth 100000 in
theorem rf_rate{x:InS}{IC:Array Value}{G:Option Addr}{gc:Nat}(hx:InV x IC G gc){P:Nat->Prop}{w:World}(hP:∀k,P k->k<w.heap.size)(hg:Row w G (strsL x.groups)){A:Option Addr}{l:List RuleS}{vs:List (Array Value)}(hr:RsX P w A l vs)(hl:l.length<=200)(hok:∀r∈l,RuleOk r)(cp:Nat) :
  Calls Tryz.prog 25 #[.slice A l.length cp,.agg IC] w (RaP (rateF l x) w):=by
 have HR0:=Lib.hid (RtAtR.new w IC)
 have HX:=Lib.hid hx
 have HG:=Lib.hid hg
 have HRS:=Lib.hid hr
 have HPP:=Lib.hid hP
 have HOK:=Lib.hid hok
 have HSZ:=Lib.hid hx.size
 obtain⟨R,hR⟩:∃R,rateF l x=R:=⟨_,rfl⟩
 have HRR:=Lib.hid (show R=rateG x (l.drop 0) noOut from by rw[<-hR,List.drop_zero];rfl)
 rw[hR]
 clear hx hg hr hok hR hP
 go_enter Tryz.func25,Tryz.ntmps25
 go_upto_region 2 with fail
 generalize ((w.alloc (.cells IC 35)).alloc (.cells #[.int .i64 0,.bool false,.bool false,.int .i64 0] 61)).alloc (.cells #[.int .i64 0,.bool false,.bool false,.int .i64 0] 61)=W0 at *
 go_wp2_with fail
 go_loopw [6] (fun v6 wr=>∃(k:Nat) (o:OutS),k<=l.length/\v6=.int .i64 (k:Int)/\R=rateG x (l.drop k) o/\RtAtR w IC o wr ∧ -(10000*(k:Int))<=o.score/\o.score<=10000*(k:Int)/\0<=o.applied/\o.applied<=(k:Int)) (fun v6 _=>l.length-(intOf v6).toNat)
 case atStart=>exact⟨0,noOut,by omega,rfl,HRR.out,HR0.out,by decide,by decide,by decide,by decide⟩
 case round =>
  obtain⟨k,o,hk,rfl,hrr,hra,hs1,hs2,ha1,ha2⟩:=hrel
  have HRA:=Lib.hid hra
  have HV:=Lib.hid hrr
  clear hrr hra HR0 HRR
  have k0:(0:Int)<=(k:Int):=by omega
  by_cases hlt:k<l.length
  ·have k1:(k:Int)<(l.length:Int):=by omega
   have HRW:=Lib.hid (HRS.out.below HPP.out HRA.out.bel)
   obtain⟨bb,off,kk,B,N,c1,f,op,n,t,rfl,hbb,hcx,d0,d1,d2,d3,d4,d5,d6,d7,d8,d9⟩:=HRW.out.at hlt
   have HD:=Lib.hid (show l.drop k=l[k]::l.drop (k+1) from List.drop_eq_getElem_cons hlt)
   rw[HD.out]at HV
   have HCX:=Lib.hid hcx
   have hrk:=HOK.out l[k] (List.getElem_mem hlt)
   have hact:=hrk.act
   have ham1:=hrk.amt.1
   have ham2:=hrk.amt.2
   clear hrk HD hcx
   generalize l[k]=r at *
   obtain⟨AS,hAS⟩:∃AS,ofL r.act=AS:=⟨_,rfl⟩
   have E1:=Lib.hid (act_eq r.act [43])
   have E2:=Lib.hid (act_eq r.act [45])
   have E3:=Lib.hid (act_eq r.act [61])
   have E4:=Lib.hid (act_eq r.act [107,105,108,108])
   have E5:=Lib.hid (act_eq r.act [119,97,116,99,104])
   have E6:=Lib.hid (act_eq r.act [115,116,111,112])
   rw[hAS]at d0 E1 E2 E3 E4 E5 E6
   clear hAS
   have NEB:=Lib.hid (show bb≠w.heap.size+1+1 from by
    obtain⟨b0,o0,_,_,_,_,_,_,_,_,eA,hb0,_⟩:=HRS.out.at hlt
    injection eA with eA
    injection eA with e1 e2
    omega)
   have D0:=Lib.hid d0
   have D1:=Lib.hid d1
   have HAP:=Lib.hid (rf_applies HX.out (w:=wr.drew) (fun j hj=>Nat.lt_of_lt_of_le (HPP.out j hj) HRA.out.bel.size) ((HG.out.below HRA.out.bel).below (Below.refl _ _).drew) (HCX.out.keep (w':=wr.drew) (fun _ _=>rfl) (Nat.le_refl _)) AS r.amt (tilI r.til))
   obtain⟨oi,ei⟩:=inR_of (inR_load (w:=wr.drew) HRA.out.drew.inp HSZ.out)
   go_upto_region 5 with fail
   go_cut [19] (fun s19 wx=>s19=.bool (!appS r x)/\RtAtR w IC o wx/\Below wr.heap.size wr wx)
   case first =>
    go_region_law ((go_simp;go_at_call 23;(with_reducible refine HAP.out.mono ?_);rintro e w4 ⟨rfl,hb4⟩;have HRA4:=Lib.hid (HRA.out.drew.below hb4);dsimp only))
    all_goals
     go_wp2_with fail
     go_meet
     exact⟨rfl,HRA4.out,(Below.refl _ _).drew.trans hb4⟩
   case rest =>
    obtain⟨rfl,hra4,hbr⟩:=hcut
    have HBR:=Lib.hid hbr
    have HRA4:=Lib.hid hra4
    clear hra4 hbr d0 d1 d2 d3 d4 d5 d6 d7 d8 d9 oi ei HAP HRA
    rcases hap:appS r x with _|_
    ·have HNX:=Lib.hid (show R=rateG x (l.drop (k+1)) o from by rw[HV.out,rateG_no hap])
     clear hap
     go_wp2_with fail
     go_roundw
     case rel=>exact⟨k+1,o,by omega,by go_num,HNX.out,HRA4.out,by omega,by omega,by omega,by omega⟩
     case measure=>simp[intOf]<;>omega
    ·have HYES:=Lib.hid hap
     clear hap
     have d0:=(HBR.out.cell (p:=⟨bb,off+k*10,none⟩) hbb).trans D0.out
     have d1:=(HBR.out.cell (p:=⟨bb,off+k*10+1,none⟩) hbb).trans D1.out
     have DD0:=Lib.hid d0
     have DD1:=Lib.hid d1
     have hbc:bb<wc.heap.size:=Nat.lt_of_lt_of_le hbb HBR.out.size
     obtain⟨sc,ki,wa,ap⟩:=o
     simp only at hs1 hs2 ha1 ha2
     obtain⟨l0,l1,l2,l3,y0,y1,y2,y3⟩:=HRA4.out.cells
     have HM:=Lib.hid hact
     simp only[actsL,List.mem_cons,List.not_mem_nil,or_false]at hact
     obtain⟨m,hm⟩:∃m,r.amt=m:=⟨_,rfl⟩
     have HMM:=Lib.hid hm
     rw[hm]at d1 DD1 ham1 ham2
     clear hm
     have HS1:=Lib.hid (HRA4.out.set (i:=3) (v:=.int .i64 (ap+1)) (o':=⟨sc,ki,wa,ap+1⟩) rfl)
     have hne:w.heap.size+1+1≠bb:=fun e=>NEB.out e.symm
     have HX0:=Lib.hid ((World.cell?_of_block (a:=⟨bb,off+k*10,none⟩) (heap_set_ne (w:=wc) (p:=w.heap.size+1+1) (i:=3) (.int .i64 (ap+1)) (fun e=>hne e.symm))).trans DD0.out)
     have HX1:=Lib.hid ((World.cell?_of_block (a:=⟨bb,off+k*10+1,none⟩) (heap_set_ne (w:=wc) (p:=w.heap.size+1+1) (i:=3) (.int .i64 (ap+1)) (fun e=>hne e.symm))).trans DD1.out)
     go_upto_region 7 with fail
     clear d0 d1 l0 l1 l2 l3 y0 y1 y2 y3
     generalize wc.setCell ⟨w.heap.size+1+1,3,none⟩ (.int .i64 (ap+1))=w5 at *
     have d0:=HX0.out
     have d1:=HX1.out
     obtain⟨l0,l1,l2,l3,y0,y1,y2,y3⟩:=HS1.out.cells
     simp only at l0 l1 l2 l3
     rcases hact with hA|hA|hA|hA|hA|hA
     ·have HNX:=Lib.hid (show R=rateG x (l.drop (k+1)) ⟨sc+m,ki,wa,ap+1⟩ from by
       rw[HV.out,rateG_yes HYES.out (by rw[hA];decide)]
       congr 1
       unfold doR
       rw[hA,HMM.out]
       rfl)
      have t1:(AS.toList == [43])=true:=by rw[E1.out,hA];decide
      have t2:(AS.toList == [45])=false:=by rw[E2.out,hA];decide
      have t3:(AS.toList == [61])=false:=by rw[E3.out,hA];decide
      have t4:(AS.toList == [107,105,108,108])=false:=by rw[E4.out,hA];decide
      have t5:(AS.toList == [119,97,116,99,104])=false:=by rw[E5.out,hA];decide
      have t6:(AS.toList == [115,116,111,112])=false:=by rw[E6.out,hA];decide
      have HS2:=Lib.hid (HS1.out.drew.set (i:=0) (v:=.int .i64 (sc+m)) (o':=⟨sc+m,ki,wa,ap+1⟩) rfl)
      clear hA HM
      go_upto_region 9 with fail
      go_region
      all_goals
       go_wp2_with fail
       go_roundw
       case rel=>exact⟨k+1,⟨sc+m,ki,wa,ap+1⟩,by omega,by go_num,HNX.out,HS2.out,by simp only;omega,by simp only;omega,by simp only;omega,by simp only;omega⟩
       case measure=>simp[intOf]<;>omega
     ·have HNX:=Lib.hid (show R=rateG x (l.drop (k+1)) ⟨sc-m,ki,wa,ap+1⟩ from by
       rw[HV.out,rateG_yes HYES.out (by rw[hA];decide)]
       congr 1
       unfold doR
       rw[hA,HMM.out]
       rfl)
      have t1:(AS.toList == [43])=false:=by rw[E1.out,hA];decide
      have t2:(AS.toList == [45])=true:=by rw[E2.out,hA];decide
      have t3:(AS.toList == [61])=false:=by rw[E3.out,hA];decide
      have t4:(AS.toList == [107,105,108,108])=false:=by rw[E4.out,hA];decide
      have t5:(AS.toList == [119,97,116,99,104])=false:=by rw[E5.out,hA];decide
      have t6:(AS.toList == [115,116,111,112])=false:=by rw[E6.out,hA];decide
      have HS2:=Lib.hid (HS1.out.drew.set (i:=0) (v:=.int .i64 (sc-m)) (o':=⟨sc-m,ki,wa,ap+1⟩) rfl)
      clear hA HM
      go_upto_region 11 with fail
      go_region
      all_goals
       go_wp2_with fail
       go_roundw
       case rel=>exact⟨k+1,⟨sc-m,ki,wa,ap+1⟩,by omega,by go_num,HNX.out,HS2.out,by simp only;omega,by simp only;omega,by simp only;omega,by simp only;omega⟩
       case measure=>simp[intOf]<;>omega
     ·have HNX:=Lib.hid (show R=rateG x (l.drop (k+1)) ⟨m,ki,wa,ap+1⟩ from by
       rw[HV.out,rateG_yes HYES.out (by rw[hA];decide)]
       congr 1
       unfold doR
       rw[hA,HMM.out]
       rfl)
      have t1:(AS.toList == [43])=false:=by rw[E1.out,hA];decide
      have t2:(AS.toList == [45])=false:=by rw[E2.out,hA];decide
      have t3:(AS.toList == [61])=true:=by rw[E3.out,hA];decide
      have t4:(AS.toList == [107,105,108,108])=false:=by rw[E4.out,hA];decide
      have t5:(AS.toList == [119,97,116,99,104])=false:=by rw[E5.out,hA];decide
      have t6:(AS.toList == [115,116,111,112])=false:=by rw[E6.out,hA];decide
      have HS2:=Lib.hid (HS1.out.set (i:=0) (v:=.int .i64 m) (o':=⟨m,ki,wa,ap+1⟩) rfl)
      clear hA HM
      go_wp2_with fail
      go_roundw
      case rel=>exact⟨k+1,⟨m,ki,wa,ap+1⟩,by omega,by go_num,HNX.out,HS2.out,by simp only;omega,by simp only;omega,by simp only;omega,by simp only;omega⟩
      case measure=>simp[intOf]<;>omega
     ·have HNX:=Lib.hid (show R=rateG x (l.drop (k+1)) ⟨sc,true,wa,ap+1⟩ from by
       rw[HV.out,rateG_yes HYES.out (by rw[hA];decide)]
       congr 1
       unfold doR
       rw[hA,HMM.out]
       rfl)
      have t1:(AS.toList == [43])=false:=by rw[E1.out,hA];decide
      have t2:(AS.toList == [45])=false:=by rw[E2.out,hA];decide
      have t3:(AS.toList == [61])=false:=by rw[E3.out,hA];decide
      have t4:(AS.toList == [107,105,108,108])=true:=by rw[E4.out,hA];decide
      have t5:(AS.toList == [119,97,116,99,104])=false:=by rw[E5.out,hA];decide
      have t6:(AS.toList == [115,116,111,112])=false:=by rw[E6.out,hA];decide
      have HS2:=Lib.hid (HS1.out.set (i:=1) (v:=.bool true) (o':=⟨sc,true,wa,ap+1⟩) rfl)
      clear hA HM
      go_wp2_with fail
      go_roundw
      case rel=>exact⟨k+1,⟨sc,true,wa,ap+1⟩,by omega,by go_num,HNX.out,HS2.out,by simp only;omega,by simp only;omega,by simp only;omega,by simp only;omega⟩
      case measure=>simp[intOf]<;>omega
     ·have HNX:=Lib.hid (show R=rateG x (l.drop (k+1)) ⟨sc,ki,true,ap+1⟩ from by
       rw[HV.out,rateG_yes HYES.out (by rw[hA];decide)]
       congr 1
       unfold doR
       rw[hA,HMM.out]
       rfl)
      have t1:(AS.toList == [43])=false:=by rw[E1.out,hA];decide
      have t2:(AS.toList == [45])=false:=by rw[E2.out,hA];decide
      have t3:(AS.toList == [61])=false:=by rw[E3.out,hA];decide
      have t4:(AS.toList == [107,105,108,108])=false:=by rw[E4.out,hA];decide
      have t5:(AS.toList == [119,97,116,99,104])=true:=by rw[E5.out,hA];decide
      have t6:(AS.toList == [115,116,111,112])=false:=by rw[E6.out,hA];decide
      have HS2:=Lib.hid (HS1.out.set (i:=2) (v:=.bool true) (o':=⟨sc,ki,true,ap+1⟩) rfl)
      clear hA HM
      go_wp2_with fail
      go_roundw
      case rel=>exact⟨k+1,⟨sc,ki,true,ap+1⟩,by omega,by go_num,HNX.out,HS2.out,by simp only;omega,by simp only;omega,by simp only;omega,by simp only;omega⟩
      case measure=>simp[intOf]<;>omega
     ·have HNX:=Lib.hid (show R=⟨sc,ki,wa,ap+1⟩ from by
       rw[HV.out,rateG_stop HYES.out hA]
       unfold doR
       rw[hA]
       rfl)
      have t1:(AS.toList == [43])=false:=by rw[E1.out,hA];decide
      have t2:(AS.toList == [45])=false:=by rw[E2.out,hA];decide
      have t3:(AS.toList == [61])=false:=by rw[E3.out,hA];decide
      have t4:(AS.toList == [107,105,108,108])=false:=by rw[E4.out,hA];decide
      have t5:(AS.toList == [119,97,116,99,104])=false:=by rw[E5.out,hA];decide
      have t6:(AS.toList == [115,116,111,112])=true:=by rw[E6.out,hA];decide
      obtain⟨r0,r1,r2,r3,g0,g1,g2,g3⟩:=HS1.out.rcells
      have HPT:=Lib.hid HS1.out.put
      clear hA HM
      go_wp2_with fail
      exact out_retR (o:=⟨sc,ki,wa,ap+1⟩) HPT.out.1 rfl ⟨by rw[HNX.out],HPT.out.2⟩
  ·have k1:¬ (k:Int)<(l.length:Int):=by omega
   have HZ:=Lib.hid (show R=o from by rw[HV.out,List.drop_eq_nil_of_le (by omega)];rfl)
   obtain⟨l0,l1,l2,l3,_⟩:=HRA.out.cells
   obtain⟨r0,r1,r2,r3,f0,f1,f2,f3⟩:=HRA.out.rcells
   have HPT:=Lib.hid HRA.out.put
   go_wp2_with fail
   exact out_retR (o:=o) HPT.out.1 rfl ⟨by rw[HZ.out],HPT.out.2⟩
theorem info_R:(Tryz.prog.info? 59).map (fun i=>(i.zero,i.size,i.bytes))=some (some (.agg rZ),10,128):=by kernel_rfl
theorem el_R:Elem Tryz.prog 47 59 10 128:=Elem.of Tryz.underlying47 info_R rfl (by omega)
def RuX(P:Nat->Prop)(w:World)(r:RuleS)(x:Array Value):Prop := ∃k B N c f op n t,x=rC (ofL r.act) r.amt (tilI r.til) r.cond.isSome k (.slice B N c) f op n t/\condX P w r.cond (xC k (.slice B N c) f op n t)
theorem RuX.keep{P:Nat->Prop}{w w':World}{r:RuleS}{x:Array Value}(h:RuX P w r x)(hk:∀k,P k->w'.heap[k]?=w.heap[k]?)(hz:w.heap.size<=w'.heap.size):RuX P w' r x:=by
 obtain⟨k,B,N,c,f,op,n,t,e,hc⟩:=h
 exact⟨k,B,N,c,f,op,n,t,e,hc.keep hk hz⟩
theorem RuX.mono{P Q:Nat->Prop}{w:World}{r:RuleS}{x:Array Value}(h:RuX P w r x)(hs:∀k,P k->Q k):RuX Q w r x:=by
 obtain⟨k,B,N,c,f,op,n,t,e,hc⟩:=h
 exact⟨k,B,N,c,f,op,n,t,e,hc.mono hs⟩
structure LstR(z:Nat)(v:Value)(rs:List RuleS)(vs:List (Array Value))(w:World):Prop where
 own:w.ownsRow z 59 10 v rs.length (vs.flatMap (·.toList))
 len:vs.length=rs.length
 el:∀(i:Nat) (h1:i<rs.length) (h2:i<vs.length),RuX (fun k=>z<=k/\k<w.heap.size/\v.ownBlock≠some k) w rs[i] vs[i]
section
variable {z : Nat} {v : Value} {rs : List RuleS} {vs : List (Array Value)} {w w' : World}
theorem LstR.nil(z:Nat)(w:World):LstR z (.slice none 0 0) [] [] w:=⟨World.ownsRow_nil w z _ 10,rfl,fun i h=>by simp at h⟩
theorem LstR.keep(h:LstR z v rs vs w)(hk:∀k,z<=k->k<w.heap.size->w'.heap[k]?=w.heap[k]?)(hz:w.heap.size<=w'.heap.size):LstR z v rs vs w':=by
 refine⟨own_oth h.own fun k e=>hk k (h.own.lt k e).1 (h.own.lt k e).2,h.len,fun i h1 h2=>?_⟩
 exact((h.el i h1 h2).keep (fun k hA=>hk k hA.1 hA.2.1) hz).mono fun k hA=>⟨hA.1,Nat.lt_of_lt_of_le hA.2.1 hz,hA.2.2⟩
theorem LstR.below(h:LstR z v rs vs w)(hb:Below w.heap.size w w'):LstR z v rs vs w':=h.keep (fun k _ hk=>hb.block k hk) hb.size
theorem LstR.push{v':Value}{r:RuleS}{x:Array Value}{z1:Nat}(h:LstR z v rs vs w)(hz1:z<=z1)(hx:RuX (fun k=>z1<=k/\k<w.heap.size) w r x)(hgl:∀g,v.ownBlock=some g->g<z1)(ho:w'.ownsRow z 59 10 v' (rs.length+1) (vs.flatMap (·.toList)++x.toList))(hg:w.grownBy w' v.ownBlock)
  (hat:v'.ownBlock=v.ownBlock\/∀g,v'.ownBlock=some g->w.heap.size<=g):LstR z v' (rs ++ [r]) (vs ++ [x]) w':=by
 have hn:∀k,k<w.heap.size->v.ownBlock≠some k->v'.ownBlock≠some k:=fun k hk hv e=>by
  rcases hat with h1|h1
  ·exact hv (h1 ▸ e)
  ·have:=h1 k e;omega
 refine⟨by rw[List.length_append,List.flatMap_append];simpa using ho,by simp[h.len],fun i h1 h2=>?_⟩
 by_cases hi:i<rs.length
 ·have hi2:i<vs.length:=by rw[h.len];exact hi
  rw[List.getElem_append_left hi,List.getElem_append_left hi2]
  exact((h.el i hi hi2).keep (fun k hk=>hg.block k hk.2.1 (fun e=>hk.2.2 e.symm)) hg.size).mono fun k hk=>⟨hk.1,Nat.lt_of_lt_of_le hk.2.1 hg.size,hn k hk.2.1 hk.2.2⟩
 ·have h1':i=rs.length:=by simp at h1;omega
  subst h1'
  have e1:(rs ++ [r])[rs.length]=r:=by simp
  have e2:(vs ++ [x])[rs.length]'h2=x:=by
   have hl:=h.len
   rw[List.getElem_append_right (by omega)];simp[hl]
  rw[e1,e2]
  exact(hx.keep (fun k hk=>hg.block k hk.2 (fun e=>by have:=hgl k e.symm;omega)) hg.size).mono fun k hk=>⟨by omega,Nat.lt_of_lt_of_le hk.2 hg.size,hn k hk.2 (fun e=>by have:=hgl k e;omega)⟩
theorem LstR.done(h:LstR z v rs vs w):∃A c,v=.slice A rs.length c/\RsX (fun k=>z<=k/\k<w.heap.size) w A rs vs:=by
 obtain⟨A,c,e,hr⟩:=own_row h.own
 exact⟨A,c,e,hr,h.len,fun i h1 h2=>(h.el i h1 h2).mono fun k hk=>⟨hk.1,hk.2.1⟩⟩
end
def RemL(L:Bs)(at_ n:Nat)(rest:List RuleS):Prop:=(at_<=L.length/\∃ln,rulesG (linesM (L.drop at_)) ln n=.ok rest)\/(L.length<at_/\rest=[])
theorem linesM_cut{L:Bs}{a i:Nat}(ha:a<=i)(hi:i<=L.length)(hn:∀(j:Nat) (h:j<L.length),a<=j->j<i->isNl L[j]=false)(hs:∀(h:i<L.length),isNl L[i]=true) :
  linesM (L.drop a)=(L.drop a).take (i-a)::(if i<L.length then linesM (L.drop (i+1)) else []):=by
 have hx:∀c∈(L.drop a).take (i-a),isNl c=false:=fun c hc=>by
  obtain⟨j,hj,rfl⟩:=List.getElem_of_mem hc
  rw[List.length_take,List.length_drop]at hj
  rw[List.getElem_take,List.getElem_drop]
  exact hn (a+j) (by omega) (by omega) (by omega)
 by_cases h:i<L.length
 ·rw[if_pos h]
  have e:L.drop a=(L.drop a).take (i-a)++10::L.drop (i+1):=by
   have h10:L[i]=10:=by have:=hs h;unfold isNl at this;simpa using this
   conv=>lhs;rw[<-List.take_append_drop (i-a) (L.drop a),List.drop_drop,show a+(i-a)=i by omega,List.drop_eq_getElem_cons h,h10]
  conv=>lhs;rw[e]
  exact lines_some _ _ hx
 ·rw[if_neg h]
  have e:(L.drop a).take (i-a)=L.drop a:=List.take_of_length_le (by rw[List.length_drop];omega)
  rw[e]at hx⊢
  exact lines_none _ hx
theorem RemL.line{L:Bs}{a i n:Nat}{rest:List RuleS}(h:RemL L a n rest)(ha:a<=i)(hi:i<=L.length)(hn:∀(j:Nat) (h:j<L.length),a<=j->j<i->isNl L[j]=false)(hs:∀(h:i<L.length),isNl L[i]=true) :
  (idleF ((L.drop a).take (i-a))=true/\RemL L (i+1) n rest)\/(idleF ((L.drop a).take (i-a))=false/\∃r rest',lineF ((L.drop a).take (i-a)) n=.ok r/\rest=r::rest'/\RemL L (i+1) (n+1) rest'):=by
 rcases h with⟨hal,ln,hr⟩|⟨hal,_⟩
 ·rw[linesM_cut ha hi hn hs]at hr
  have hnext:∀(m:Nat) (l:List RuleS),rulesG (if i<L.length then linesM (L.drop (i+1)) else []) (ln+1) m=.ok l->RemL L (i+1) m l:=fun m l hl=>by
   by_cases h:i<L.length
   ·rw[if_pos h]at hl;exact .inl ⟨by omega,_,hl⟩
   ·rw[if_neg h]at hl
    refine .inr ⟨by omega,?_⟩
    unfold rulesG at hl
    injection hl with hl;exact hl.symm
  cases hq:idleF ((L.drop a).take (i-a)) with
  | true =>
   rw[rulesG_idle hq]at hr
   exact .inl ⟨rfl,hnext _ _ hr⟩
  | false =>
   right
   refine⟨rfl,?_⟩
   unfold rulesG at hr
   rw[if_neg (by simp[hq])]at hr
   split at hr
   ·cases hr
   ·rename_i r hln
    split at hr
    ·cases hr
    ·rename_i l hl
     injection hr with hr
     exact⟨r,l,hln,hr.symm,hnext _ _ hl⟩
 ·omega
theorem lineR_ok{x:Bs}{n:Nat}{r:RuleS}(h:lineF x n=.ok r):∃ts,toksF x=.ok ts/\n<200/\ruleF ts=.ok r:=by
 unfold lineF at h
 obtain⟨ts,h1,h⟩:=bindE_ok h
 split at h
 ·cases h
 ·exact⟨ts,h1,by omega,h⟩
theorem idle_at{x:Bs}{k:Nat}(hk:k<=x.length)(hb:∀(j:Nat) (h:j<x.length),j<k->blkS x[j]=true)(hs:∀(h:k<x.length),blkS x[k]=false):idleF x=(if h:k<x.length then x[k]==35 else true):=by
 have e:x.dropWhile blkS=x.drop k:=by
  induction k generalizing x with
  | zero =>
   cases x with
   | nil=>rfl
   | cons c r =>
    have:=hs (by simp)
    simp only[List.getElem_cons_zero]at this
    rw[List.dropWhile_cons,if_neg (by simp[this])];rfl
  | succ k ih =>
   cases x with
   | nil=>simp at hk
   | cons c r =>
    have h0:=hb 0 (by simp) (by omega)
    simp only[List.getElem_cons_zero]at h0
    rw[List.dropWhile_cons,if_pos h0,List.drop_succ_cons]
    exact ih (by simpa using hk) (fun j h hj=>by have:=hb (j+1) (by simp;omega) (by omega);simpa using this) (fun h=>by have:=hs (by simp;omega);simpa using this)
 unfold idleF
 rw[e]
 split
 ·rename_i h0
  have:=List.drop_eq_nil_iff.1 h0
  rw[dif_neg (by omega)]
 ·rename_i c r h0
  have hl:k<x.length:=by
   rcases Nat.lt_or_ge k x.length with q|q
   ·exact q
   ·rw[List.drop_eq_nil_of_le q]at h0;cases h0
  rw[dif_pos hl]
  rw[List.drop_eq_getElem_cons hl]at h0
  injection h0 with h0 _
  rw[h0]
theorem rtGood_of{l:List RT}{En:Nat}(hok:TksOk (allT l En))(hr:RtsOk l):∀p∈l,RtGood p:=fun p hp=>by
 obtain⟨j,hj,rfl⟩:=List.getElem_of_mem hp
 have hj2:j<(allT l En).length:=by rw[allT_length];omega
 have e:(allT l En)[j]=l[j].1:=by
  simp only[allT]
  rw[List.getElem_append_left (by simpa using hj)];simp
 have hc:=hok.col j hj2
 have hf:=hok.fin j hj2
 rw[e]at hc hf
 rw[allT_length]at hf
 refine⟨hr _ hp,⟨fun h0=>?_,hc.2.2.1⟩,hc.2.1,hc.1,fun h2=>?_⟩
 ·have:=hf.1 h0;omega
 ·rw[hr _ hp h2];exact hc.2.2.2
def RfPa(rs:List RuleS)(w:World)(e:Ending)(w':World):Prop := ∃A c vs,e=.returned (.tuple #[.slice A rs.length c,.int .i64 0,.int .i64 0,.int .i64 0])/\RsX (fun k=>w.heap.size<=k/\k<w'.heap.size) w' A rs vs/\Below w.heap.size w w'
structure PsR(s:ByteArray)(w:World)(rs:List RuleS)(v6:Value)(i a ln:Nat)(dn rest:List RuleS)(vs:List (Array Value))(wr:World):Prop where
 ai:a<=i
 li:ln<=i+1
 nn:∀(j:Nat) (h:j<(toL s).length),a<=j->j<i->isNl (toL s)[j]=false
 lst:LstR w.heap.size v6 dn vs wr
 bel:Below w.heap.size w wr
 rem:RemL (toL s) a dn.length rest
 all:rs=dn++rest
 fin:i=s.size+1->a=s.size+1
theorem pR_ret{Q:Ending->World->Prop}{W:World}{A:Option Addr}{n c:Nat}{T:Array Value}(t2:T[2]?=some (.slice A n c))(t3:T[3]?=some (.int .i64 0))(t4:T[4]?=some (.int .i64 0))(t5:T[5]?=some (.int .i64 0))(hQ:Q (.returned (.tuple #[.slice A n c,.int .i64 0,.int .i64 0,.int .i64 0])) W) :
  bodyPost Tryz.prog Tryz.f21 Q .ret { tmps:=T,defers := [] } W:=by
 refine bodyPost_ret (v:=.tuple #[.slice A n c,.int .i64 0,.int .i64 0,.int .i64 0]) ?_ rfl hQ
 simp[results,Tryz.f21,go_sem,t2,t3,t4,t5]
set_option maxHeartbeats 16000000 in
set_option maxRecDepth 100000 in
theorem rf_parse(s:ByteArray)(w:World){rs:List RuleS}(h:parseG (toL s)=.ok rs):Calls Tryz.prog 21 #[.string s] w (RfPa rs w):=by
 have HL:=Lib.hid (toL_length s)
 have HAT:=Lib.hid (fun k (hk:k<s.size)=>toL_getElem s k hk)
 have hsz:s.size<=65536/\rulesG (linesM (toL s)) 0 0=.ok rs:=by
  unfold parseG at h
  split at h
  ·cases h
  ·rw[HL.out] at *;exact⟨by omega,h⟩
 obtain⟨hs,hrg⟩:=hsz
 have hs1:¬ (65536:Int)<(s.size:Int):=by omega
 have HFEW:=Lib.hid (rulesG_few _ _ _ _ (by omega) hrg)
 have HP0:=Lib.hid (show PsR s w rs (.slice none 0 0) 0 0 1 [] rs [] w from⟨Nat.le_refl _,Nat.le_refl _,fun j _ _ hj=>by omega,LstR.nil _ _,Below.refl _ _,.inl ⟨Nat.zero_le _,0,by rw[List.drop_zero];exact hrg⟩,rfl,fun h=>by omega⟩)
 clear h hrg
 go_enter Tryz.func21,Tryz.ntmps21
 go_wp2_with fail
 go_loopw [6,7,8,9] (fun v6 v7 v8 v9 wr=>∃(i a ln:Nat) (dn rest:List RuleS) (vs:List (Array Value)),i<=s.size+1/\v7=.int .i64 (ln:Int)/\v8=.int .i64 (a:Int)/\v9=.int .i64 (i:Int)/\PsR s w rs v6 i a ln dn rest vs wr) (fun _ _ _ v9 _=>s.size+1-(intOf v9).toNat)
 case atStart=>exact⟨0,0,1, [],rs, [],by omega,rfl,rfl,rfl,HP0.out⟩
 case round =>
  obtain⟨i,a,ln,dn,rest,vs,hi,rfl,rfl,rfl,hps⟩:=hrel
  have HPS:=Lib.hid hps
  have hai:=hps.ai
  have hli:=hps.li
  obtain⟨A6,c6,rfl,_⟩:=own_row hps.lst.own
  clear hps HP0
  have i0:(0:Int)<=(i:Int):=by omega
  have a0:(0:Int)<=(a:Int):=by omega
  by_cases hle:i<=s.size
  ·have i1:(i:Int)<=(s.size:Int):=by omega
   by_cases hnl:∃h:i<s.size,(num (s[i]'h)==10)=false
   ·obtain⟨hlt,hne⟩:=hnl
    have i2:decide (i<s.size)=true:=decide_eq_true hlt
    have i3:(i:Int)<(s.size:Int):=by omega
    have hb:(num (s[i]'hlt) != 10)=true:=by simp only[bne,hne];rfl
    have HNE:=Lib.hid hne
    clear hne
    go_wp2_with fail
    go_roundw
    case rel =>
     refine⟨i+1,a,ln,dn,rest,vs,by omega,rfl,rfl,by go_num,?_⟩
     have hp:=HPS.out
     refine⟨by omega,by omega,fun j hj h1 h2=>?_,hp.lst,hp.bel,hp.rem,hp.all,fun h=>by omega⟩
     rcases Nat.lt_or_ge j i with q|q
     ·exact hp.nn j hj h1 q
     ·obtain rfl:j=i:=by omega
      rw[HAT.out j hlt]
      have h3:=HNE.out
      unfold isNl
      rw[beq_eq_false_iff_ne]at h3⊢
      intro e;rw[e]at h3;exact h3 rfl
    case measure=>simp[intOf]<;>omega
   ·have HST:=Lib.hid (show ∀(h:i<(toL s).length),isNl (toL s)[i]=true from fun h=>by
     rw[HL.out]at h
     rw[HAT.out i h]
     by_cases q:(num (s[i]'h)==10)=false
     ·exact absurd ⟨h,q⟩ hnl
     ·have q:(num (s[i]'h)==10)=true:=by simpa using q
      have:s[i]'h=10:=by
       apply UInt8.toNat_inj.1
       have:=beq_iff_eq.1 q
       simp only[num]at this;show(s[i]'h).toNat = 10;omega
      rw[this];rfl)
    have hcond:decide (i<s.size)=false\/∃h:i<s.size,decide (i<s.size)=true/\(num (s[i]'h) != 10)=false:=by
     by_cases hlt:i<s.size
     ·right
      refine⟨hlt,decide_eq_true hlt,?_⟩
      have:=HST.out (by rw[HL.out];exact hlt)
      rw[HAT.out i hlt]at this
      unfold isNl at this
      rw[beq_iff_eq.1 this];rfl
     ·exact .inl (decide_eq_false hlt)
    clear hnl
    have HLN:=Lib.hid (HPS.out.rem.line HPS.out.ai (by rw[HL.out];exact hle) HPS.out.nn HST.out)
    obtain⟨X,hX⟩:∃X,s.extract a i=X:=⟨_,rfl⟩
    have HXL:=Lib.hid (show((toL s).drop a).take (i-a)=toL X from by rw[<-hX,extract_toL];rfl)
    have hXs:X.size=i-a:=by rw[<-hX];exact extract_size s a i hle
    rw[HXL.out]at HLN
    have hXle:X.size<=65536:=by omega
    clear hXs
    have a1:(a:Int)<=(i:Int):=by omega
    have HXT:=Lib.hid (toL_length X)
    have HXA:=Lib.hid (fun k (hk:k<X.size)=>toL_getElem X k hk)
    have hX2:=hX
    have HX:=Lib.hid hX
    have hai2:a<=i:=hai
    go_upto_region 8 with fail
    go_cut [35] (fun s35 wx=>s35=.bool false/\wr=wx)
    case first =>
     rcases hcond with q1|⟨hlt,q1,q2⟩
     ·go_wp2_with fail
      go_meet
      exact⟨rfl,rfl⟩
     ·have i3:(i:Int)<(s.size:Int):=by omega
      go_wp2_with fail
      go_meet
      exact⟨rfl,rfl⟩
    case rest =>
     obtain⟨rfl,hwc⟩:=hcut
     subst hwc
     clear hcond
     obtain⟨wo,rfl⟩:∃wo:World,wo=wr:=⟨_,rfl⟩
     go_wp2_with fail
     clear hX hX2
     go_loop [11] (fun v=>∃k:Nat,k<=X.size/\v=.int .i64 (k:Int)/\∀(j:Nat) (h:j<(toL X).length),j<k->blkS (toL X)[j]=true) (fun v=>X.size-(intOf v).toNat)
     case atStart=>exact⟨0,by omega,rfl,fun j _ hj=>by omega⟩
     case round =>
      obtain⟨k,hk,rfl,hbl⟩:=hrel
      have HBL:=Lib.hid hbl
      clear hbl
      have k0:(0:Int)<=(k:Int):=by omega
      by_cases hkb:∃h:k<X.size,isBlank (num (X[k]'h))=true
      ·obtain⟨hlt,hbk⟩:=hkb
       have k1:(k:Int)<(X.size:Int):=by omega
       have HBK:=Lib.hid (fun wx=>show Calls Tryz.prog 37 #[.int .u8 (num (X[k]'hlt))] wx fun e w'=>e=.returned (.bool true)/\wx=w' from by
        have:=rf_blank (num (X[k]'hlt)) wx
        rwa [hbk]at this)
       have HBB:=Lib.hid hbk
       clear hbk
       go_wp2_with ((go_at_call 37;(with_reducible refine(HBK.out _).mono ?_);rintro e w' ⟨rfl,rfl⟩))
       go_round
       case rel =>
        refine⟨k+1,by omega,by go_num,fun j hj h1=>?_⟩
        rcases Nat.lt_or_ge j k with q|q
        ·exact HBL.out j hj q
        ·obtain rfl:j=k:=by omega
         rw[HXA.out j hlt]
         exact HBB.out
       case measure=>simp[intOf]<;>omega
      ·have HKS:=Lib.hid (show ∀(h:k<(toL X).length),blkS (toL X)[k]=false from fun h=>by
        rw[HXT.out]at h
        rw[HXA.out k h]
        by_cases q:isBlank (num (X[k]'h))=true
        ·exact absurd ⟨h,q⟩ hkb
        ·simpa[blkS] using q)
       have HID:=Lib.hid (idle_at (by rw[HXT.out];exact hk) HBL.out HKS.out)
       clear hkb
       go_upto_region 11 with fail
       go_cut [49] (fun s49 wx=>s49=.bool false/\wo=wx)
       case first =>
        by_cases hlt:k<X.size
        ·have k1:(k:Int)<(X.size:Int):=by omega
         have k2:decide (k<X.size)=true:=decide_eq_true hlt
         have HBK:=Lib.hid (fun wx=>show Calls Tryz.prog 37 #[.int .u8 (num (X[k]'hlt))] wx fun e w'=>e=.returned (.bool false)/\wx=w' from by
          have:=rf_blank (num (X[k]'hlt)) wx
          have h2:=HKS.out (by rw[HXT.out];exact hlt)
          rw[HXA.out k hlt]at h2
          rwa [show isBlank (num (X[k]'hlt))=false from h2]at this)
         go_wp2_with ((go_at_call 37;(with_reducible refine(HBK.out _).mono ?_);rintro e w' ⟨rfl,rfl⟩))
         go_meet
         exact⟨rfl,rfl⟩
        ·have k2:decide (k<X.size)=false:=decide_eq_false hlt
         go_wp2_with fail
         go_meet
         exact⟨rfl,rfl⟩
       case rest =>
        obtain⟨rfl,hwc⟩:=hcut
        subst hwc
        go_upto_region 13 with fail
        go_cut [61] (fun s61 wx=>s61=.bool (!idleF (toL X))/\wo=wx)
        case first =>
         by_cases hlt:k<X.size
         ·have k1:(k:Int)<(X.size:Int):=by omega
          have k2:decide (k<X.size)=true:=decide_eq_true hlt
          have HI2:=Lib.hid (show(!idleF (toL X))=(num (X[k]'hlt) != 35) from by
           rw[HID.out,dif_pos (by rw[HXT.out];exact hlt),HXA.out k hlt,Bool.eq_iff_iff]
           simp only[Bool.not_eq_true',beq_eq_false_iff_ne,ne_eq,bne_iff_ne]
           exact not_congr ⟨fun e=>by rw[e];rfl,fun e=>UInt8.toNat_inj.1 (by simp only[num]at e;show(X[k]'hlt).toNat = 35;omega)⟩)
          go_wp2_with fail
          go_meet
          exact⟨by rw[HI2.out],rfl⟩
         ·have k2:decide (k<X.size)=false:=decide_eq_false hlt
          have HI2:=Lib.hid (show(!idleF (toL X))=false from by
           rw[HID.out,dif_neg (by rw[HXT.out];exact hlt)];rfl)
          go_wp2_with fail
          go_meet
          exact⟨by rw[HI2.out],rfl⟩
        case rest =>
         obtain⟨rfl,hwc⟩:=hcut
         subst hwc
         rcases HLN.out with⟨hid,hrem⟩|⟨hid,r,rest',hln,hrest,hrem⟩
         ·have HRM:=Lib.hid hrem
          rw[hid]
          clear hid hrem
          go_wp2_with fail
          go_roundw
          case rel =>
           refine⟨i+1,i+1,ln+1,dn,rest,vs,by omega,by go_num,by go_num,by go_num,?_⟩
           have hp:=HPS.out
           exact⟨Nat.le_refl _,by omega,fun j _ h1 h2=>by omega,hp.lst,hp.bel,HRM.out,hp.all,fun h=>h⟩
          case measure=>simp[intOf]<;>omega
         ·have HRM:=Lib.hid hrem
          have HRS:=Lib.hid hrest
          rw[hid]
          obtain⟨ts,htk,hn200,hru⟩:=lineR_ok hln
          have HT:=Lib.hid (fun wx=>(rf_tokens X wx (by omega) htk).mono (R':=fun e w'=>∃A2 c2 l,e=.returned (.tuple #[.slice A2 l.length c2,.int .i64 0,.int .i64 0])/\Row w' A2 (rtsV l)/\(∀bb o,A2=some ⟨bb,o,none⟩->bb<w'.heap.size)/\RtsOk l/\ts=allT l (X.size+1)/\Below wx.heap.size wx w') (fun e w' hp=>by
           obtain⟨v,l,h1,h2,h3,h4,h5⟩:=hp
           obtain⟨A2,c2,rfl,hr⟩:=own_row h2
           exact⟨A2,c2,l,h1,hr,fun bb o e=>(h2.lt bb (by rw[e];rfl)).2,h3,h4,h5⟩))
          have HTO:=Lib.hid (toksF_ok (by rw[HXT.out];omega) htk)
          have HRU:=Lib.hid hru
          obtain⟨En,hEn⟩:∃En,X.size+1=En:=⟨_,rfl⟩
          have y1:IntKind.i64.wrap ((X.size:Int)+1)=(En:Int):=by rw[IntWalk.i64_in _ (by omega)];omega
          rw[hEn]at HT
          have hEn2:En<=100000:=by omega
          have n1:decide (200<=dn.length)=false:=decide_eq_false (by omega)
          have n2:¬ (200:Int)<=(dn.length:Int):=by omega
          clear hid hrem hrest hln htk hru hEn
          go_upto_region 19 with((go_at_call 38;(with_reducible refine(HT.out _).mono ?_);rintro e w2 ⟨A2,c2,l,rfl,hr2,hlt2,hok2,hts2,hb2⟩;have HR2:=Lib.hid hr2;have HLT2:=Lib.hid hlt2;have HOK2:=Lib.hid hok2;have HTS2:=Lib.hid hts2;have HB2:=Lib.hid hb2;clear hr2 hlt2 hok2 hts2 hb2))
          go_upto_region 20 with fail
          have HB3:=Lib.hid (alloc_bel w2 (.cells #[.slice A2 l.length c2,.int .i64 0,.int .i64 (En:Int),.int .i64 0,.int .i64 0] 101))
          have HTL:=Lib.hid (show TksOk (allT l En) from HTS2.out ▸ HTO.out)
          have hlf:l.length<=1000000:=by have:=HTL.out.few;rw[allT_length]at this;omega
          have HPK:=Lib.hid (show PkR (w2.alloc (.cells #[.slice A2 l.length c2,.int .i64 0,.int .i64 (En:Int),.int .i64 0,.int .i64 0] 101)) w2.heap.size A2 c2 l En 0 from
           ⟨heap_alloc_new w2 _,HR2.out.below HB3.out,HLT2.out,rtGood_of HTL.out HOK2.out,hlf,by omega,Nat.zero_le _⟩)
          have hzo:=HPS.out.bel.size
          have hz2:=HB2.out.size
          have HBO:=Lib.hid (HB2.out.trans (HB3.out.mono hz2))
          have hb3z:w2.heap.size<(w2.alloc (.cells #[.slice A2 l.length c2,.int .i64 0,.int .i64 (En:Int),.int .i64 0,.int .i64 0] 101)).heap.size:=by simp
          have HRR:=Lib.hid (rf_rule (n:=w.heap.size) HPK.out (by omega) (by omega) (show ruleF ((allT l En).drop 0)=.ok r from by rw[List.drop_zero, ← HTS2.out];exact HRU.out))
          clear HT HPK HR2 HLT2 HOK2 HTS2 HTL HTO HRU HB3
          generalize w2.alloc (.cells #[.slice A2 l.length c2,.int .i64 0,.int .i64 (En:Int),.int .i64 0,.int .i64 0] 101)=W3 at *
          generalize w2.heap.size=b at *
          go_upto_region 21 with(go_at_call 39;go_loud (with_reducible refine HRR.out.mono ?_);go_loud (rintro e w5 ⟨hf5,⟨K,B,N,c,f,op,xx,t,rfl,hc5⟩,⟨A9,cap9,l9,En9,k9,hp9⟩⟩;have HF5:=Lib.hid hf5;have HC5:=Lib.hid hc5;have HP9:=Lib.hid hp9;clear hf5 hc5 hp9))
          have HB6:=Lib.hid (alloc_bel w5 (.cells (rC (ofL r.act) r.amt (tilI r.til) r.cond.isSome K (.slice B N c) f op xx t) 59))
          have HBX6:=Lib.hid (heap_alloc_new w5 (.cells (rC (ofL r.act) r.amt (tilI r.til) r.cond.isSome K (.slice B N c) f op xx t) 59))
          have hz5:=HF5.out.size
          have HLS:=Lib.hid (show LstR w.heap.size (.slice A6 dn.length c6) dn vs w5 from HPS.out.lst.keep (fun k _ hk=>by
           rw[HF5.out.oth k (Nat.lt_of_lt_of_le hk HBO.out.size) (by omega),HBO.out.block k hk]) (Nat.le_trans HBO.out.size hz5))
          have HLS6:=Lib.hid (HLS.out.below HB6.out)
          have HBE6:=Lib.hid (HPS.out.bel.trans ((HBO.out.mono hzo).trans (HF5.out.bel.trans (HB6.out.mono (by have:=HBO.out.size;omega)))))
          have HRX6:=Lib.hid (show RuX (fun k=>W3.heap.size<=k/\k<(w5.alloc (.cells (rC (ofL r.act) r.amt (tilI r.til) r.cond.isSome K (.slice B N c) f op xx t) 59)).heap.size) (w5.alloc (.cells (rC (ofL r.act) r.amt (tilI r.til) r.cond.isSome K (.slice B N c) f op xx t) 59)) r (rC (ofL r.act) r.amt (tilI r.til) r.cond.isSome K (.slice B N c) f op xx t) from
           ⟨K,B,N,c,f,op,xx,t,rfl,(HC5.out.keep (fun k hk=>HB6.out.block k hk.2) HB6.out.size).mono fun k hk=>⟨hk.1,Nat.lt_of_lt_of_le hk.2 HB6.out.size⟩⟩)
          have HP6:=Lib.hid (HP9.out.below HB6.out)
          obtain⟨_,_,_,g3,_,gz⟩:=HP6.out.cells
          generalize hAS:ofL r.act=AS at *
          have HASS:=Lib.hid hAS
          clear hAS
          generalize w5.alloc (.cells (rC AS r.amt (tilI r.til) r.cond.isSome K (.slice B N c) f op xx t) 59)=W6 at *
          generalize w5.heap.size=rb at *
          obtain⟨d0,d1,d2,d3,d4,d5,d6,d7,d8,d9,_,_⟩:=rBox_cells HBX6.out
          have hown:=HLS6.out.own
          have hbase:w.heap.size<=W6.heap.size:=HBE6.out.size
          have hgl:=Lib.hid (fun g e=>(HPS.out.lst.own.lt g e).2)
          have hz3:=HBO.out.size
          go_upto_region 23 with fail
          go_wp2_with ((at_builtin;go_loud (refine wpList_push el_R rfl _ _ rfl hown #[.string AS,.int .i64 r.amt,.int .i64 (tilI r.til),.bool r.cond.isSome,.int .u8 K,.slice B N c,.string f,.string op,.int .i64 xx,.string t] rfl rfl rfl (by simp[Value.oneCell']) (by omega) (by unfold maxLen;omega) hbase ?_);intro g7 cap7 w7 hown7 hg7 hat7))
          have HL7:=Lib.hid (HLS6.out.push (r:=r) (z1:=W3.heap.size) (by omega) HRX6.out (fun g e=>by have:=hgl.out g e;omega) hown7 hg7 (by
           rcases hat7 with e|e
           ·exact .inl (by rw[e];rfl)
           ·exact .inr fun g e2=>by simp only[Value.ownBlock,Option.some.injEq]at e2;omega))
          have HB7:=Lib.hid (HBE6.out.grown hg7 HBE6.out.size (fun k e=>(HLS6.out.own.lt k e).1))
          clear hown7 hg7 hat7 hown
          go_roundw
          case rel =>
           refine⟨i+1,i+1,ln+1,dn ++ [r],rest',vs ++ [rC AS r.amt (tilI r.til) r.cond.isSome K (.slice B N c) f op xx t],by omega,by go_num,by go_num,by go_num,?_⟩
           have hp:=HPS.out
           exact⟨Nat.le_refl _,by omega,fun j _ h1 h2=>by omega,HL7.out,HB7.out,by rw[List.length_append];exact HRM.out,by rw[hp.all,HRS.out];simp,fun h=>h⟩
          case measure=>simp[intOf]<;>omega
  ·obtain rfl:i=s.size+1:=by omega
   have i1:¬ ((s.size+1:Nat):Int)<=(s.size:Int):=by omega
   have HDN:=Lib.hid (show rs=dn from by
    have hp:=HPS.out
    have ha:=hp.fin rfl
    rcases hp.rem with⟨h1,_⟩|⟨_,h1⟩
    ·rw[HL.out]at h1;omega
    ·have:=hp.all;rw[h1,List.append_nil]at this;exact this)
   go_wp2_with fail
   rw[HDN.out]
   obtain⟨A,c,e,hx⟩:=HPS.out.lst.done
   injection e with e1 e2 e3
   subst e1;subst e3
   exact pR_ret rfl rfl rfl rfl ⟨_,_,_,rfl,hx,HPS.out.bel⟩
attribute [local go_sem] run_store
attribute [local go_sem ↓] wp_load_in
set_option maxHeartbeats 4000000 in
set_option maxRecDepth 100000 in
theorem law_result(o:OutS)(w:World):Calls Tryz.prog 24 #[.agg (outC o)] w (RaP o w):=by
 obtain⟨sc,ki,wa,ap⟩:=o
 obtain⟨q0,q1,q2,q3⟩:=two_new w (.cells (outC ⟨sc,ki,wa,ap⟩) 61) (.cells (outC noOut) 39)
 have HB:=Lib.hid q2
 have HR:=Lib.hid q1
 have c0:((w.alloc (.cells (outC ⟨sc,ki,wa,ap⟩) 61)).alloc (.cells (outC noOut) 39)).cell? ⟨w.heap.size,0,none⟩=some (.int .i64 sc):=by rw[Lib.cell_of_heap q0];rfl
 have c1:((w.alloc (.cells (outC ⟨sc,ki,wa,ap⟩) 61)).alloc (.cells (outC noOut) 39)).cell? ⟨w.heap.size,1,none⟩=some (.bool ki):=by rw[Lib.cell_of_heap q0];rfl
 have c2:((w.alloc (.cells (outC ⟨sc,ki,wa,ap⟩) 61)).alloc (.cells (outC noOut) 39)).cell? ⟨w.heap.size,2,none⟩=some (.bool wa):=by rw[Lib.cell_of_heap q0];rfl
 have c3:((w.alloc (.cells (outC ⟨sc,ki,wa,ap⟩) 61)).alloc (.cells (outC noOut) 39)).cell? ⟨w.heap.size,3,none⟩=some (.int .i64 ap):=by rw[Lib.cell_of_heap q0];rfl
 have d0:((w.alloc (.cells (outC ⟨sc,ki,wa,ap⟩) 61)).alloc (.cells (outC noOut) 39)).cell? ⟨w.heap.size+1,0,none⟩=some (.int .i64 0):=by rw[Lib.cell_of_heap q1];rfl
 have d1:((w.alloc (.cells (outC ⟨sc,ki,wa,ap⟩) 61)).alloc (.cells (outC noOut) 39)).cell? ⟨w.heap.size+1,1,none⟩=some (.bool false):=by rw[Lib.cell_of_heap q1];rfl
 have d2:((w.alloc (.cells (outC ⟨sc,ki,wa,ap⟩) 61)).alloc (.cells (outC noOut) 39)).cell? ⟨w.heap.size+1,2,none⟩=some (.bool false):=by rw[Lib.cell_of_heap q1];rfl
 have d3:((w.alloc (.cells (outC ⟨sc,ki,wa,ap⟩) 61)).alloc (.cells (outC noOut) 39)).cell? ⟨w.heap.size+1,3,none⟩=some (.int .i64 0):=by rw[Lib.cell_of_heap q1];rfl
 have f0:=Lib.frozen_of_heap q1 0
 have f1:=Lib.frozen_of_heap q1 1
 have f2:=Lib.frozen_of_heap q1 2
 have f3:=Lib.frozen_of_heap q1 3
 have hz:=heap_lt q1
 clear q0 q1 q2 q3
 go_enter Tryz.func24,Tryz.ntmps24
 go_upto_region 1 with fail
 generalize (w.alloc (.cells (outC ⟨sc,ki,wa,ap⟩) 61)).alloc (.cells (outC noOut) 39)=W at *
 go_wp2_with fail
 have b0:=heap_set HR.out (i:=0) (.int .i64 sc)
 have b1:=heap_set b0 (i:=1) (.bool ki)
 have b2:=heap_set b1 (i:=2) (.bool wa)
 have b3:=heap_set b2 (i:=3) (.int .i64 ap)
 have e0:((((W.setCell ⟨w.heap.size+1,0,none⟩ (.int .i64 sc)).setCell ⟨w.heap.size+1,1,none⟩ (.bool ki)).setCell ⟨w.heap.size+1,2,none⟩ (.bool wa)).setCell ⟨w.heap.size+1,3,none⟩ (.int .i64 ap)).cell? ⟨w.heap.size+1,0,none⟩=some (.int .i64 sc):=by rw[Lib.cell_of_heap b3];rfl
 have e1:((((W.setCell ⟨w.heap.size+1,0,none⟩ (.int .i64 sc)).setCell ⟨w.heap.size+1,1,none⟩ (.bool ki)).setCell ⟨w.heap.size+1,2,none⟩ (.bool wa)).setCell ⟨w.heap.size+1,3,none⟩ (.int .i64 ap)).cell? ⟨w.heap.size+1,1,none⟩=some (.bool ki):=by rw[Lib.cell_of_heap b3];rfl
 have e2:((((W.setCell ⟨w.heap.size+1,0,none⟩ (.int .i64 sc)).setCell ⟨w.heap.size+1,1,none⟩ (.bool ki)).setCell ⟨w.heap.size+1,2,none⟩ (.bool wa)).setCell ⟨w.heap.size+1,3,none⟩ (.int .i64 ap)).cell? ⟨w.heap.size+1,2,none⟩=some (.bool wa):=by rw[Lib.cell_of_heap b3];rfl
 have e3:((((W.setCell ⟨w.heap.size+1,0,none⟩ (.int .i64 sc)).setCell ⟨w.heap.size+1,1,none⟩ (.bool ki)).setCell ⟨w.heap.size+1,2,none⟩ (.bool wa)).setCell ⟨w.heap.size+1,3,none⟩ (.int .i64 ap)).cell? ⟨w.heap.size+1,3,none⟩=some (.int .i64 ap):=by rw[Lib.cell_of_heap b3];rfl
 refine bodyPost_ret (v:=.agg (outC ⟨sc,ki,wa,ap⟩)) ?_ rfl ⟨rfl,?_⟩
 ·simp[results,Tryz.f24,go_sem,e0,e1,e2,e3]
 ·exact(two_new w _ _).2.2.1
end Go.Proofs.YtannhfnpigiggaaGreatDoor
