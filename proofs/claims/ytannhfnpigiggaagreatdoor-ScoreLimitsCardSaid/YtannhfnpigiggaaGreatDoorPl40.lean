import Derived.Test.YtannhfnpigiggaaGreatDoorPl26
import Derived.Recover
import Derived.Defers
namespace Go.Proofs.YtannhfnpigiggaaGreatDoor
set_option linter.unusedSimpArgs false
set_option linter.unusedVariables false
open Go.RowKit
theorem tm22(a b c x u:Value):(#[a,b,c]++((Array.replicate 19 u).setIfInBounds 3 x).setIfInBounds 0 x)=#[a,b,c,x,u,u,x,u,u,u,u,u,u,u,u,u,u,u,u,u,u,u]:=by
 first|kernel_rfl|(rw[<-Array.toList_inj];simp[List.replicate])
theorem pr_idle(a0 a1 a2:Value)(w:World) :
  CallsD Tryz.prog 48 #[a0,a1,a2] .returning w fun e u' w'=>e=.returned (.tuple #[])/\u'=.returning/\w'=w:=by
 refine callsD_of_wpS Tryz.func48 rfl fun c₀ cs hu=>?_
 apply wpS_seq
 apply wpS_region
 simp[wpOpsS,go_sem,recoverD,hu,Tryz.ntmps48,Exit.thenS]
 refine wpS_of_wp ?_
 rw[tm22]
 go_wp2_with fail
 cases c₀
 simp_all[bodyPostS,results,Tryz.results48]
theorem catch_world{W:World}{p0 p1 p2:Nat}{c er:Int}(k0:W.heap[p0]?=some ruleZ)(k1:W.heap[p1]?=some (.cells #[.int .i64 0] 3 (0,0)))(k2:W.heap[p2]?=some (.cells #[.int .i64 0] 28 (0,0)))(h01:p0<p1)(h12:p1<p2) :
  (((((((W.setCell ⟨p0,0,none⟩ (.string ⟨#[]⟩)).setCell ⟨p0,1,none⟩ (.int .i64 0)).setCell ⟨p0,2,none⟩ (.bool false)).setCell ⟨p0,3,none⟩ (.int .i64 0)).setCell ⟨p0,4,none⟩ .nilIface).setCell ⟨p1,0,none⟩ (.int .i64 c)).setCell ⟨p2,0,none⟩ (.int .i64 er)).drew.heap[p0]?=some ruleZ ∧
  (((((((W.setCell ⟨p0,0,none⟩ (.string ⟨#[]⟩)).setCell ⟨p0,1,none⟩ (.int .i64 0)).setCell ⟨p0,2,none⟩ (.bool false)).setCell ⟨p0,3,none⟩ (.int .i64 0)).setCell ⟨p0,4,none⟩ .nilIface).setCell ⟨p1,0,none⟩ (.int .i64 c)).setCell ⟨p2,0,none⟩ (.int .i64 er)).drew.heap[p1]?=some (.cells #[.int .i64 c] 3 (0,0)) ∧
  (((((((W.setCell ⟨p0,0,none⟩ (.string ⟨#[]⟩)).setCell ⟨p0,1,none⟩ (.int .i64 0)).setCell ⟨p0,2,none⟩ (.bool false)).setCell ⟨p0,3,none⟩ (.int .i64 0)).setCell ⟨p0,4,none⟩ .nilIface).setCell ⟨p1,0,none⟩ (.int .i64 c)).setCell ⟨p2,0,none⟩ (.int .i64 er)).drew.heap[p2]?=some (.cells #[.int .i64 er] 28 (0,0)) ∧
  Fr p0 (fun k=>k=p0\/k=p1\/k=p2) W (((((((W.setCell ⟨p0,0,none⟩ (.string ⟨#[]⟩)).setCell ⟨p0,1,none⟩ (.int .i64 0)).setCell ⟨p0,2,none⟩ (.bool false)).setCell ⟨p0,3,none⟩ (.int .i64 0)).setCell ⟨p0,4,none⟩ .nilIface).setCell ⟨p1,0,none⟩ (.int .i64 c)).setCell ⟨p2,0,none⟩ (.int .i64 er)).drew:=by
 have b1:=heap_set k0 (i:=0) (.string ⟨#[]⟩)
 have b2:=heap_set b1 (i:=1) (.int .i64 0)
 have b3:=heap_set b2 (i:=2) (.bool false)
 have b4:=heap_set b3 (i:=3) (.int .i64 0)
 have b5:=heap_set b4 (i:=4) .nilIface
 have d1:=(heap_set_ne (w:=((((W.setCell ⟨p0,0,none⟩ (.string ⟨#[]⟩)).setCell ⟨p0,1,none⟩ (.int .i64 0)).setCell ⟨p0,2,none⟩ (.bool false)).setCell ⟨p0,3,none⟩ (.int .i64 0))) (p:=p0) (q:=p1) (i:=4) .nilIface (by omega)).trans ((heap_set_ne (p:=p0) (i:=3) (.int .i64 0) (by omega)).trans ((heap_set_ne (p:=p0) (i:=2) (.bool false) (by omega)).trans ((heap_set_ne (p:=p0) (i:=1) (.int .i64 0) (by omega)).trans ((heap_set_ne (p:=p0) (i:=0) (.string ⟨#[]⟩) (by omega)).trans k1))))
 have d2:=(heap_set_ne (w:=((((W.setCell ⟨p0,0,none⟩ (.string ⟨#[]⟩)).setCell ⟨p0,1,none⟩ (.int .i64 0)).setCell ⟨p0,2,none⟩ (.bool false)).setCell ⟨p0,3,none⟩ (.int .i64 0))) (p:=p0) (q:=p2) (i:=4) .nilIface (by omega)).trans ((heap_set_ne (p:=p0) (i:=3) (.int .i64 0) (by omega)).trans ((heap_set_ne (p:=p0) (i:=2) (.bool false) (by omega)).trans ((heap_set_ne (p:=p0) (i:=1) (.int .i64 0) (by omega)).trans ((heap_set_ne (p:=p0) (i:=0) (.string ⟨#[]⟩) (by omega)).trans k2))))
 have e5:(((((W.setCell ⟨p0,0,none⟩ (.string ⟨#[]⟩)).setCell ⟨p0,1,none⟩ (.int .i64 0)).setCell ⟨p0,2,none⟩ (.bool false)).setCell ⟨p0,3,none⟩ (.int .i64 0)).setCell ⟨p0,4,none⟩ .nilIface).heap[p0]?=some ruleZ:=b5
 have fr5:=((((((Fr.refl p0 (fun k=>k=p0\/k=p1\/k=p2) W).set (i:=0) (.string ⟨#[]⟩) (Nat.le_refl p0) (.inl (.inl rfl))).set (i:=1) (.int .i64 0) (Nat.le_refl p0) (.inl (.inl rfl))).set (i:=2) (.bool false) (Nat.le_refl p0) (.inl (.inl rfl))).set (i:=3) (.int .i64 0) (Nat.le_refl p0) (.inl (.inl rfl))).set (i:=4) .nilIface (Nat.le_refl p0) (.inl (.inl rfl)))
 clear b1 b2 b3 b4 b5 k0 k1 k2
 generalize ((((W.setCell ⟨p0,0,none⟩ (.string ⟨#[]⟩)).setCell ⟨p0,1,none⟩ (.int .i64 0)).setCell ⟨p0,2,none⟩ (.bool false)).setCell ⟨p0,3,none⟩ (.int .i64 0)).setCell ⟨p0,4,none⟩ .nilIface=W5 at *
 have hd:∀X:World,X.drew.heap=X.heap:=fun _=>rfl
 rw[hd]
 have u0:(W5.setCell ⟨p1,0,none⟩ (.int .i64 c)).heap[p0]?=some ruleZ:=(heap_set_ne _ (by omega)).trans e5
 have u1:(W5.setCell ⟨p1,0,none⟩ (.int .i64 c)).heap[p1]?=some (.cells #[.int .i64 c] 3 (0,0)):=heap_set d1 _
 have u2:(W5.setCell ⟨p1,0,none⟩ (.int .i64 c)).heap[p2]?=some (.cells #[.int .i64 0] 28 (0,0)):=(heap_set_ne _ (by omega)).trans d2
 have u3:=fr5.set (i:=0) (B:=p1) (.int .i64 c) (by omega) (.inl (.inr (.inl rfl)))
 generalize W5.setCell ⟨p1,0,none⟩ (.int .i64 c)=W6 at *
 exact⟨(heap_set_ne _ (by omega)).trans u0,(heap_set_ne _ (by omega)).trans u1,heap_set u2 _,(u3.set (i:=0) (B:=p2) (.int .i64 er) (by omega) (.inl (.inr (.inr rfl)))).drew⟩
set_option maxHeartbeats 4000000 in
set_option maxRecDepth 100000 in
theorem pr_catch(p0 p1 p2:Nat)(col:Nat)(er:Int)(w:World)(hz:w.heap[p0]?=some ruleZ)(h1:w.heap[p1]?=some (.cells #[.int .i64 0] 3 (0,0)))(h2:w.heap[p2]?=some (.cells #[.int .i64 0] 28 (0,0)))(h01:p0<p1)(h12:p1<p2) :
  CallsD Tryz.prog 48 #[.pointer (some ⟨p0,0,none⟩),.pointer (some ⟨p1,0,none⟩),.pointer (some ⟨p2,0,none⟩)] (.panicking [{ v:=failV (col,er),recovered:=false }]) w fun e u' w' =>
   e=.returned (.tuple #[])/\u'=.panicking [{ v:=failV (col,er),recovered:=true }]/\w'.heap[p0]?=some ruleZ/\w'.heap[p1]?=some (.cells #[.int .i64 (col:Int)] 3 (0,0))/\w'.heap[p2]?=some (.cells #[.int .i64 er] 28 (0,0))/\Fr p0 (fun k=>k=p0\/k=p1\/k=p2) w w':=by
 refine callsD_of_wpS Tryz.func48 rfl fun c₀ cs hu=>?_
 apply wpS_seq
 apply wpS_region
 simp[wpOpsS,go_sem,recoverD,hu,Tryz.ntmps48,Exit.thenS,failV]
 refine wpS_of_wp ?_
 rw[tm22]
 have l2:=heap_lt h2
 have HZ:=Lib.hid hz;have H1:=Lib.hid h1;have H2:=Lib.hid h2
 clear hz h1 h2
 have hta:∀(X:Value) (wx:World),(Instr.typeAssert (.iface 110 X) 20 110 true).run Tryz.prog wx=.ok (.tuple #[X,.bool true]) wx:=fun _ _=>by kernel_rfl
 go_wp2_with fail
 have HB:=Lib.hid (alloc_bel w (.cells #[.int .i64 (col:Int),.int .i64 er] 110))
 have HX:=Lib.hid (heap_alloc_new w (.cells #[.int .i64 (col:Int),.int .i64 er] 110))
 have hz:=(HB.out.block p0 (by omega)).trans HZ.out
 have h1:=(HB.out.block p1 (by omega)).trans H1.out
 have h2:=(HB.out.block p2 (by omega)).trans H2.out
 obtain⟨pf,hpf⟩:∃pf,w.heap.size=pf:=⟨_,rfl⟩
 rw[hpf]at HX l2
 simp only[hpf]
 generalize w.alloc (.cells #[.int .i64 (col:Int),.int .i64 er] 110)=W1 at *
 have x0:W1.cell? ⟨pf,0,none⟩=some (.int .i64 (col:Int)):=by rw[Lib.cell_of_heap HX.out];rfl
 have x1:W1.cell? ⟨pf,1,none⟩=some (.int .i64 er):=by rw[Lib.cell_of_heap HX.out];rfl
 obtain⟨z0,z1,z2,z3,z4⟩:=ruleZ_cells hz
 have g0:=Lib.frozen_of_heap hz 0
 have g1:=Lib.frozen_of_heap hz 1
 have g2:=Lib.frozen_of_heap hz 2
 have g3:=Lib.frozen_of_heap hz 3
 have g4:=Lib.frozen_of_heap hz 4
 have c1:W1.cell? ⟨p1,0,none⟩=some (.int .i64 0):=by rw[Lib.cell_of_heap h1];rfl
 have c2:W1.cell? ⟨p2,0,none⟩=some (.int .i64 0):=by rw[Lib.cell_of_heap h2];rfl
 have f1:=Lib.frozen_of_heap h1 0
 have f2:=Lib.frozen_of_heap h2 0
 have n01:p0≠p1:=by omega
 have n02:p0≠p2:=by omega
 have n12:p1≠p2:=by omega
 have n0f:p0≠pf:=by omega
 have n1f:p1≠pf:=by omega
 have n2f:p2≠pf:=by omega
 have m01:p1≠p0:=by omega
 have m02:p2≠p0:=by omega
 have m12:p2≠p1:=by omega
 have m0f:pf≠p0:=by omega
 have m1f:pf≠p1:=by omega
 have m2f:pf≠p2:=by omega
 have K0:=Lib.hid hz;have K1:=Lib.hid h1;have K2:=Lib.hid h2
 clear hz h1 h2 hta
 have HF:=Lib.hid (catch_world K0.out K1.out K2.out h01 h12 (c:=(col:Int)) (er:=er))
 have HFB:=Lib.hid (Fr.of (n:=p0) (S:=fun k=>k=p0\/k=p1\/k=p2) HB.out (by omega))
 go_region
 go_wp2_with fail
 refine⟨rfl,_,rfl,.tuple #[],by simp[results,Tryz.results48],rfl,rfl,HF.out.1,HF.out.2.1,HF.out.2.2.1,HFB.out.trans HF.out.2.2.2 (fun i hi=>.inl hi)⟩
structure LnPost(x:Except Fl RuleS)(w:World)(e:Ending)(w':World):Prop where
 bel:Below w.heap.size w w'
 res:match x with
  | .error f=>e=.returned (.tuple #[.agg (ruleC ⟨#[]⟩ 0 false 0 .nilIface),.int .i64 (f.1:Int),.int .i64 f.2])
  | .ok r=>∃v,e=.returned (.tuple #[.agg (ruleC (ofL r.act) r.amt r.til.isSome (r.til.getD 0:Nat) v),.int .i64 0,.int .i64 0])/\condO w.heap.size r.cond v w'/\RuleOk r
def resW(w:World):World:=((w.alloc ruleZ).alloc (.cells #[.int .i64 0] 3)).alloc (.cells #[.int .i64 0] 28)
theorem ln_pk{w:World}{g cap:Nat}{l:List Tok}(hr:Row w (some ⟨g,0,none⟩) (toksV l))(hg:g<w.heap.size)(ho:TksOk l):PkS (w.alloc (.cells #[.slice (some ⟨g,0,none⟩) l.length cap,.int .i64 0] 116)) w.heap.size (some ⟨g,0,none⟩) cap l 0 :=
 ⟨heap_alloc_new w _,hr.below (alloc_bel w _),fun bb o e=>by injection e with e;injection e with e1 e2;omega,ho,ho.pos⟩
theorem colT_at{l:List Tok}(h:0<l.length):colT l=(l[0]'h).col:=by
 cases l with
 | nil=>simp at h
 | cons t r=>rfl
structure ResAt(w wx:World):Prop where
 r0:wx.heap[w.heap.size]?=some ruleZ
 r1:wx.heap[w.heap.size+1]?=some (.cells #[.int .i64 0] 3 (0,0))
 r2:wx.heap[w.heap.size+2]?=some (.cells #[.int .i64 0] 28 (0,0))
 bel:Below w.heap.size w wx
theorem resW_at(w:World):ResAt w (resW w):=by
 have b1:=alloc_bel w ruleZ
 have b2:=alloc_bel (w.alloc ruleZ) (.cells #[.int .i64 0] 3)
 have b3:=alloc_bel ((w.alloc ruleZ).alloc (.cells #[.int .i64 0] 3)) (.cells #[.int .i64 0] 28)
 have z1:(w.alloc ruleZ).heap.size=w.heap.size+1:=by simp
 have z2:((w.alloc ruleZ).alloc (.cells #[.int .i64 0] 3)).heap.size=w.heap.size+2:=by simp
 refine⟨?_,?_,?_,?_⟩
 ·exact(b3.block _ (by omega)).trans ((b2.block _ (by omega)).trans (heap_alloc_new w _))
 ·exact(b3.block _ (by omega)).trans (by rw[<-z1];exact heap_alloc_new _ _)
 ·rw[<-z2];exact heap_alloc_new _ _
 ·exact b1.trans ((b2.mono (by omega)).trans (b3.mono (by omega)))
theorem ResAt.below{w wx wy:World}(h:ResAt w wx)(hb:Below wx.heap.size wx wy):ResAt w wy :=
 ⟨(hb.block _ (heap_lt h.r0)).trans h.r0,(hb.block _ (heap_lt h.r1)).trans h.r1,(hb.block _ (heap_lt h.r2)).trans h.r2,h.bel.trans (hb.mono h.bel.size)⟩
theorem ResAt.belowN{w wx wy:World}{n:Nat}(h:ResAt w wx)(hb:Below n wx wy)(hn:w.heap.size+3<=n):ResAt w wy :=
 ⟨(hb.block _ (by omega)).trans h.r0,(hb.block _ (by omega)).trans h.r1,(hb.block _ (by omega)).trans h.r2,h.bel.trans (hb.mono (by omega))⟩
set_option maxHeartbeats 4000000 in
set_option maxRecDepth 100000 in
theorem ln_panic{w w1:World}{T:Array Value}{f:Fl}(h:ResAt w w1)(t4:T[4]?=some (.pointer (some ⟨w.heap.size,0,none⟩)))(t5:T[5]?=some (.pointer (some ⟨w.heap.size+1,0,none⟩)))(t6:T[6]?=some (.pointer (some ⟨w.heap.size+1+1,0,none⟩))) :
  bodyPostD Tryz.prog Tryz.f31 (LnPost (.error f) w) (.panic [{ v:=failV f,recovered:=false }])
   { tmps:=T,defers := [{ target:=.fn (.func 48) #[.pointer (some ⟨w.heap.size,0,none⟩),.pointer (some ⟨w.heap.size+1,0,none⟩),.pointer (some ⟨w.heap.size+1+1,0,none⟩)],args:=#[] }] } w1:=by
 refine leaves_cons (f:=48) (args:=#[.pointer (some ⟨w.heap.size,0,none⟩),.pointer (some ⟨w.heap.size+1,0,none⟩),.pointer (some ⟨w.heap.size+1+1,0,none⟩)]) (by simp) (by simp[go_sem]) ?_
 refine(pr_catch w.heap.size (w.heap.size+1) (w.heap.size+1+1) f.1 f.2 w1 h.r0 h.r1 h.r2 (by omega) (by omega)).mono ?_
 rintro e u' w2 ⟨rfl,rfl,q0,q1,q2,hf⟩
 obtain⟨z0,z1,z2,z3,z4⟩:=ruleZ_cells q0
 have c1:w2.cell? ⟨w.heap.size+1,0,none⟩=some (.int .i64 (f.1:Int)):=by rw[Lib.cell_of_heap q1];rfl
 have c2:w2.cell? ⟨w.heap.size+1+1,0,none⟩=some (.int .i64 f.2):=by rw[Lib.cell_of_heap q2];rfl
 refine⟨.tuple #[.agg (ruleC ⟨#[]⟩ 0 false 0 .nilIface),.int .i64 (f.1:Int),.int .i64 f.2],?_,?_⟩
 ·simp[results,Tryz.results31,go_sem,t4,t5,t6,z0,z1,z2,z3,z4,c1,c2]
 ·exact⟨h.bel.trans hf.bel,rfl⟩
theorem condO_set{z:Nat}{c:Option Cond}{v:Value}{w:World}(h:condO z c v w){px i:Nat}{cs:Array Value}{T:TypeId}{fr:Nat × Nat}(hb:w.heap[px]?=some (.cells cs T fr))(hT:T≠196/\T≠284)(hp:px<z)(u:Value):condO z c v (w.setCell ⟨px,i,none⟩ u):=by
 cases c with
 | none=>exact h
 | some c=>exact((show CondIn _ w c v from h).keep (KeepA.set hb hT.1 hT.2 (fun hk=>by omega))).mono fun k hk=>⟨hk.1,by simpa using hk.2⟩
theorem condO_mono{z y:Nat}{c:Option Cond}{v:Value}{w:World}(h:condO z c v w)(hy:y<=z):condO y c v w:=by
 cases c with
 | none=>exact h
 | some c=>exact(show CondIn _ w c v from h).mono fun k hk=>⟨Nat.le_trans hy hk.1,hk.2⟩
theorem intT_ne:((3:Nat)≠196/\(3:Nat)≠284)/\(28:Nat)≠196/\(28:Nat)≠284:=by decide
theorem res_put{w w3:World}(h:ResAt w w3){AS:ByteArray}{m:Int}{e:Bool}{u:Int}{v:Value}{c:Option Cond}{z:Nat}(hc:condO z c v w3)(hz:w.heap.size+3<=z){W:World}
  (hW:W=(((((((w3.setCell ⟨w.heap.size,0,none⟩ (.string AS)).setCell ⟨w.heap.size,1,none⟩ (.int .i64 m)).setCell ⟨w.heap.size,2,none⟩ (.bool e)).setCell ⟨w.heap.size,3,none⟩ (.int .i64 u)).setCell ⟨w.heap.size,4,none⟩ v).setCell ⟨w.heap.size+1,0,none⟩ (.int .i64 0)).setCell ⟨w.heap.size+1+1,0,none⟩ (.int .i64 0))) :
  W.heap[w.heap.size]?=some (.cells (ruleC AS m e u v) 81 (0,0))/\W.heap[w.heap.size+1]?=some (.cells #[.int .i64 0] 3 (0,0))/\W.heap[w.heap.size+1+1]?=some (.cells #[.int .i64 0] 28 (0,0))/\Below w.heap.size w W/\condO w.heap.size c v W:=by
 have b0:=h.r0
 have b1:=heap_set b0 (i:=0) (.string AS)
 have b2:=heap_set b1 (i:=1) (.int .i64 m)
 have b3:=heap_set b2 (i:=2) (.bool e)
 have b4:=heap_set b3 (i:=3) (.int .i64 u)
 have b5:=heap_set b4 (i:=4) v
 have hcc:=condO_set (condO_set (condO_set (condO_set (condO_set hc b0 ruT_ne (by omega) (i:=0) (.string AS)) b1 ruT_ne (by omega) (i:=1) (.int .i64 m)) b2 ruT_ne (by omega) (i:=2) (.bool e)) b3 ruT_ne (by omega) (i:=3) (.int .i64 u)) b4 ruT_ne (by omega) (i:=4) v
 have hbl:=((((h.bel.setCell (p:=⟨w.heap.size,0,none⟩) (Nat.le_refl _) (.string AS)).setCell (p:=⟨w.heap.size,1,none⟩) (Nat.le_refl _) (.int .i64 m)).setCell (p:=⟨w.heap.size,2,none⟩) (Nat.le_refl _) (.bool e)).setCell (p:=⟨w.heap.size,3,none⟩) (Nat.le_refl _) (.int .i64 u)).setCell (p:=⟨w.heap.size,4,none⟩) (Nat.le_refl _) v
 have q1:(((((w3.setCell ⟨w.heap.size,0,none⟩ (.string AS)).setCell ⟨w.heap.size,1,none⟩ (.int .i64 m)).setCell ⟨w.heap.size,2,none⟩ (.bool e)).setCell ⟨w.heap.size,3,none⟩ (.int .i64 u)).setCell ⟨w.heap.size,4,none⟩ v).heap[w.heap.size+1]?=some (.cells #[.int .i64 0] 3 (0,0)) :=
  (heap_set_ne v (by omega)).trans ((heap_set_ne _ (by omega)).trans ((heap_set_ne _ (by omega)).trans ((heap_set_ne _ (by omega)).trans ((heap_set_ne _ (by omega)).trans h.r1))))
 have q2:(((((w3.setCell ⟨w.heap.size,0,none⟩ (.string AS)).setCell ⟨w.heap.size,1,none⟩ (.int .i64 m)).setCell ⟨w.heap.size,2,none⟩ (.bool e)).setCell ⟨w.heap.size,3,none⟩ (.int .i64 u)).setCell ⟨w.heap.size,4,none⟩ v).heap[w.heap.size+1+1]?=some (.cells #[.int .i64 0] 28 (0,0)) :=
  (heap_set_ne v (by omega)).trans ((heap_set_ne _ (by omega)).trans ((heap_set_ne _ (by omega)).trans ((heap_set_ne _ (by omega)).trans ((heap_set_ne _ (by omega)).trans h.r2))))
 have b5':(((((w3.setCell ⟨w.heap.size,0,none⟩ (.string AS)).setCell ⟨w.heap.size,1,none⟩ (.int .i64 m)).setCell ⟨w.heap.size,2,none⟩ (.bool e)).setCell ⟨w.heap.size,3,none⟩ (.int .i64 u)).setCell ⟨w.heap.size,4,none⟩ v).heap[w.heap.size]?=some (.cells (ruleC AS m e u v) 81 (0,0)):=b5
 subst hW
 clear b0 b1 b2 b3 b4 b5
 generalize ((((w3.setCell ⟨w.heap.size,0,none⟩ (.string AS)).setCell ⟨w.heap.size,1,none⟩ (.int .i64 m)).setCell ⟨w.heap.size,2,none⟩ (.bool e)).setCell ⟨w.heap.size,3,none⟩ (.int .i64 u)).setCell ⟨w.heap.size,4,none⟩ v=W5 at *
 have d0:=(heap_set_ne (w:=W5) (p:=w.heap.size+1) (i:=0) (.int .i64 0) (q:=w.heap.size) (by omega)).trans b5'
 have d1:(W5.setCell ⟨w.heap.size+1,0,none⟩ (.int .i64 0)).heap[w.heap.size+1]?=some (.cells #[.int .i64 0] 3 (0,0)):=heap_set q1 _
 have d2:=(heap_set_ne (w:=W5) (p:=w.heap.size+1) (i:=0) (.int .i64 0) (q:=w.heap.size+1+1) (by omega)).trans q2
 have d3:=hbl.setCell (p:=⟨w.heap.size+1,0,none⟩) (Nat.le_succ _) (.int .i64 0)
 have d4:=condO_set hcc q1 intT_ne.1 (by omega) (i:=0) (.int .i64 0)
 generalize W5.setCell ⟨w.heap.size+1,0,none⟩ (.int .i64 0)=W6 at *
 exact⟨(heap_set_ne _ (by omega)).trans d0,(heap_set_ne _ (by omega)).trans d1,heap_set d2 _,d3.setCell (p:=⟨w.heap.size+1+1,0,none⟩) (by simp only;omega) (.int .i64 0),condO_mono (condO_set d4 d2 intT_ne.2 (by omega) (i:=0) (.int .i64 0)) (by omega)⟩
set_option maxHeartbeats 4000000 in
set_option maxRecDepth 100000 in
theorem ln_done{w W:World}{T:Array Value}{AS:ByteArray}{m:Int}{e:Bool}{u:Int}{v:Value}{x:Except Fl RuleS}{r:RuleS}(hx:x=.ok r)(hb:Below w.heap.size w W)(q0:W.heap[w.heap.size]?=some (.cells (ruleC AS m e u v) 81 (0,0)))(q1:W.heap[w.heap.size+1]?=some (.cells #[.int .i64 0] 3 (0,0)))(q2:W.heap[w.heap.size+1+1]?=some (.cells #[.int .i64 0] 28 (0,0)))
  (hc:condO w.heap.size r.cond v W) (hok:RuleOk r) (hA:ofL r.act=AS) (hm:r.amt=m) (he:r.til.isSome=e) (hu:((r.til.getD 0:Nat):Int)=u) (t4:T[4]?=some (.pointer (some ⟨w.heap.size,0,none⟩))) (t5:T[5]?=some (.pointer (some ⟨w.heap.size+1,0,none⟩))) (t6:T[6]?=some (.pointer (some ⟨w.heap.size+1+1,0,none⟩))) :
  bodyPostD Tryz.prog Tryz.f31 (LnPost x w) .ret
   { tmps:=T,defers := [{ target:=.fn (.func 48) #[.pointer (some ⟨w.heap.size,0,none⟩),.pointer (some ⟨w.heap.size+1,0,none⟩),.pointer (some ⟨w.heap.size+1+1,0,none⟩)],args:=#[] }] } W:=by
 subst hx hA hm he hu
 refine leaves_cons (f:=48) (args:=#[.pointer (some ⟨w.heap.size,0,none⟩),.pointer (some ⟨w.heap.size+1,0,none⟩),.pointer (some ⟨w.heap.size+1+1,0,none⟩)]) (by simp) (by simp[go_sem]) ?_
 refine(pr_idle _ _ _ W).mono ?_
 rintro e u' w2 ⟨rfl,rfl,rfl⟩
 have c0:w2.cell? ⟨w.heap.size,0,none⟩=some (.string (ofL r.act)):=by rw[Lib.cell_of_heap q0];rfl
 have c1:w2.cell? ⟨w.heap.size,1,none⟩=some (.int .i64 r.amt):=by rw[Lib.cell_of_heap q0];rfl
 have c2:w2.cell? ⟨w.heap.size,2,none⟩=some (.bool r.til.isSome):=by rw[Lib.cell_of_heap q0];rfl
 have c3:w2.cell? ⟨w.heap.size,3,none⟩=some (.int .i64 (r.til.getD 0:Nat)):=by rw[Lib.cell_of_heap q0];rfl
 have c4:w2.cell? ⟨w.heap.size,4,none⟩=some v:=by rw[Lib.cell_of_heap q0];rfl
 have c5:w2.cell? ⟨w.heap.size+1,0,none⟩=some (.int .i64 0):=by rw[Lib.cell_of_heap q1];rfl
 have c6:w2.cell? ⟨w.heap.size+1+1,0,none⟩=some (.int .i64 0):=by rw[Lib.cell_of_heap q2];rfl
 refine⟨.tuple #[.agg (ruleC (ofL r.act) r.amt r.til.isSome (r.til.getD 0:Nat) v),.int .i64 0,.int .i64 0],?_,?_⟩
 ·simp[results,Tryz.results31,go_sem,t4,t5,t6,c0,c1,c2,c3,c4,c5,c6]
 ·exact⟨hb,v,rfl,hc,hok⟩
set_option maxHeartbeats 4000000 in
set_option maxRecDepth 100000 in
theorem sc_line(s:ByteArray)(before:Nat)(w:World)(hs:s.size<=900000)(hb:before<=1000000):Calls Tryz.prog 31 #[.string s,.int .i64 (before:Int)] w (LnPost (lineF (toL s) before) w):=by
 have hmf:∀(fn:Fn) (first cap:Array Value) (w:World),(Instr.makeFunc fn first cap).run Tryz.prog w=.ok (.func fn first cap) w:=fun _ _ _ _=>rfl
 have HT:=Lib.hid (sc_tokens s (resW w) hs)
 rcases hT:toksF (toL s) with f|l
 ·rw[hT]at HT
  have HV:=Lib.hid (show lineF (toL s) before=.error f from by unfold lineF;rw[hT];rfl)
  have HT2:=Lib.hid (HT.out.mono (R':=fun e w'=>e=failE f/\Below (resW w).heap.size (resW w) w') (fun e w' h=>⟨h.res,h.bel⟩))
  rw[HV.out]
  clear hT HT HV
  unfold resW at HT2
  go_enter_defers Tryz.func31,Tryz.ntmps31
  go_wp2_with ((go_at_call 49;(with_reducible refine HT2.out.mono ?_);rintro e w1 ⟨rfl,hb1⟩;have HB1:=Lib.hid hb1;clear hb1))
  exact ln_panic ((resW_at w).below HB1.out) rfl rfl rfl
 ·rw[hT]at HT
  have HOK:=Lib.hid (toksF_ok (by rw[toL_length];exact hs) hT)
  have HT2:=Lib.hid (HT.out.mono (R':=fun e w'=>∃g cap,e=.returned (.slice (some ⟨g,0,none⟩) l.length cap)/\Row w' (some ⟨g,0,none⟩) (toksV l)/\g<w'.heap.size/\Below (resW w).heap.size (resW w) w') (fun e w' h=>by
   obtain⟨v,he,ho⟩:=h.res
   have hp:=HOK.out.pos
   obtain⟨A2,c2,e2,hr⟩:=own_row ho
   rcases own_form ho with⟨_,h0⟩|⟨g,cap,e3,hg1,hg2,_,_⟩
   ·omega
   ·rw[e3]at e2
    injection e2 with e4 e5 e6
    exact⟨g,cap,by rw[he,e3],by rw[e4];exact hr,hg2,h.bel⟩))
  have HR0:=Lib.hid (resW_at w)
  have hpos:=HOK.out.pos
  have hfew:=HOK.out.few
  have i0:(0:Int)<(l.length:Int):=by omega
  by_cases hbf:200<=before
  ·have HV:=Lib.hid (show lineF (toL s) before=.error (colT l,9) from by unfold lineF;rw[hT,bindE,if_pos hbf])
   rw[HV.out]
   clear hT HT HV
   have hbi:(200:Int)<=(before:Int):=by omega
   unfold resW at HT2 HR0
   go_enter_defers Tryz.func31,Tryz.ntmps31
   go_upto_region 4 with((go_at_call 49;(with_reducible refine HT2.out.mono ?_);rintro e w1 ⟨g,cap,rfl,hr1,hg1,hb1⟩;have HR1:=Lib.hid (HR0.out.below hb1);have HW1:=Lib.hid hr1;clear hb1 hr1))
   have HB2:=Lib.hid (alloc_bel w1 (.cells #[.slice (some ⟨g,0,none⟩) l.length cap,.int .i64 0] 116))
   have HP2:=Lib.hid (ln_pk (cap:=cap) HW1.out hg1 HOK.out)
   have HR2:=Lib.hid (HR1.out.below HB2.out)
   generalize w1.alloc (.cells #[.slice (some ⟨g,0,none⟩) l.length cap,.int .i64 0] 116)=W2 at *
   generalize w1.heap.size=pb at *
   obtain⟨q0,q1,_,_⟩:=HP2.out.cells
   obtain⟨bb,off,he,_,_,_,_,_,x3⟩:=HP2.out.tok
   obtain⟨rfl,rfl⟩:bb=g/\off=0:=by injection he with he;injection he with e1 e2;exact⟨e1.symm,e2.symm⟩
   have x3':W2.cell? ⟨bb,3,none⟩=some (.int .i64 ((l[0]'hpos).col:Int)):=x3
   have HCL:=Lib.hid (colT_at hpos)
   rw[HCL.out]
   generalize (l[0]'hpos).col=cl at *
   clear x3 he
   go_wp2_with fail
   exact ln_panic (f:=(cl,9)) HR2.out rfl rfl rfl
  ·have HV:=Lib.hid (show lineF (toL s) before=ruleF l from by unfold lineF;rw[hT,bindE,if_neg hbf])
   rw[HV.out]
   clear hT HT HV
   have hbi:¬ (200:Int)<=(before:Int):=by omega
   unfold resW at HT2 HR0
   go_enter_defers Tryz.func31,Tryz.ntmps31
   go_upto_region 5 with((go_at_call 49;(with_reducible refine HT2.out.mono ?_);rintro e w1 ⟨g,cap,rfl,hr1,hg1,hb1⟩;have HR1:=Lib.hid (HR0.out.below hb1);have HW1:=Lib.hid hr1;clear hb1 hr1))
   have HB2:=Lib.hid (alloc_bel w1 (.cells #[.slice (some ⟨g,0,none⟩) l.length cap,.int .i64 0] 116))
   have HP2:=Lib.hid (ln_pk (cap:=cap) HW1.out hg1 HOK.out)
   have HR2:=Lib.hid (HR1.out.below HB2.out)
   have hpb:=heap_lt HR1.out.r2
   have hz2:=HB2.out.size
   generalize w1.alloc (.cells #[.slice (some ⟨g,0,none⟩) l.length cap,.int .i64 0] 116)=W2 at *
   generalize w1.heap.size=pb at *
   have HRU:=Lib.hid (sc_rule HP2.out (n:=pb) hz2 (Nat.le_refl pb))
   rw[List.drop_zero]at HRU
   rcases hX:ruleF l with f|r
   ·rw[hX]at HRU
    have HRU2:=Lib.hid (HRU.out.mono (R':=fun e w'=>e=failE f/\Below pb W2 w') (fun e w' h=>⟨h.res,h.fr.bel⟩))
    clear hX HRU
    go_wp2_with ((go_at_call 50;(with_reducible refine HRU2.out.mono ?_);rintro e w3 ⟨rfl,hb3⟩;have HR3:=Lib.hid (HR2.out.belowN hb3 (by omega));clear hb3))
    exact ln_panic HR3.out rfl rfl rfl
   ·rw[hX]at HRU
    obtain⟨AS,hAS⟩:∃AS,ofL r.act=AS:=⟨_,rfl⟩
    have HX:=Lib.hid hX
    have hz3:w.heap.size+3<=W2.heap.size:=by omega
    rcases hC:r.cond with _|cc
    ·have HRU2:=Lib.hid (HRU.out.mono (R':=fun e w'=>e=.returned (.agg (ruleC AS r.amt r.til.isSome (r.til.getD 0:Nat) .nilIface))/\condO W2.heap.size r.cond .nilIface w'/\RuleOk r/\Below pb W2 w') (fun e w' h=>by
      obtain⟨v,h1,h2,h3⟩:=h.res
      have h4:=h2
      rw[hC]at h4
      obtain rfl:v=.nilIface:=h4
      rw[hAS]at h1
      exact⟨h1,h2,h3,h.fr.bel⟩))
     have HAS:=Lib.hid hAS
     clear hX HRU hC hAS
     go_wp2_with ((go_at_call 50;(with_reducible refine HRU2.out.mono ?_);rintro e w3 ⟨rfl,hc3,hok,hb3⟩;have HR3:=Lib.hid (HR2.out.belowN hb3 (by omega));have HC3:=Lib.hid hc3;have HOR:=Lib.hid hok;obtain⟨z0,z1,z2,z3,z4⟩:=ruleZ_cells HR3.out.r0;have g0:=Lib.frozen_of_heap HR3.out.r0 0;have g1:=Lib.frozen_of_heap HR3.out.r0 1;have g2:=Lib.frozen_of_heap HR3.out.r0 2;have g3:=Lib.frozen_of_heap HR3.out.r0 3;have g4:=Lib.frozen_of_heap HR3.out.r0 4;have c1:w3.cell? ⟨w.heap.size+1,0,none⟩=some (.int .i64 0):=(by rw[Lib.cell_of_heap HR3.out.r1];rfl);have c2:w3.cell? ⟨w.heap.size+1+1,0,none⟩=some (.int .i64 0):=(by rw[Lib.cell_of_heap HR3.out.r2];rfl);have f1:w3.frozen? ⟨w.heap.size+1,0,none⟩=false:=Lib.frozen_of_heap HR3.out.r1 0;have f2:w3.frozen? ⟨w.heap.size+1+1,0,none⟩=false:=Lib.frozen_of_heap HR3.out.r2 0;clear hc3 hok hb3))
     obtain⟨e0,e1,e2,e3,e4⟩:=res_put (AS:=AS) (m:=r.amt) (e:=r.til.isSome) (u:=(r.til.getD 0:Nat)) HR3.out HC3.out hz3 rfl
     first
      | exact ln_done HX.out e3 e0 e1 e2 e4 HOR.out HAS.out rfl rfl rfl rfl rfl rfl
      | exact ln_done rfl e3 e0 e1 e2 e4 HOR.out HAS.out rfl rfl rfl rfl rfl rfl
    ·have HRU2:=Lib.hid (HRU.out.mono (R':=fun e w'=>∃T y,e=.returned (.agg (ruleC AS r.amt r.til.isSome (r.til.getD 0:Nat) (.iface T y)))/\condO W2.heap.size r.cond (.iface T y) w'/\RuleOk r/\Below pb W2 w') (fun e w' h=>by
      obtain⟨v,h1,h2,h3⟩:=h.res
      have h4:=h2
      rw[hC]at h4
      obtain⟨T,y,rfl⟩:=CondIn.shape h4
      rw[hAS]at h1
      exact⟨T,y,h1,h2,h3,h.fr.bel⟩))
     have HAS:=Lib.hid hAS
     clear hX HRU hC hAS
     go_wp2_with ((go_at_call 50;(with_reducible refine HRU2.out.mono ?_);rintro e w3 ⟨T,y,rfl,hc3,hok,hb3⟩;have HR3:=Lib.hid (HR2.out.belowN hb3 (by omega));have HC3:=Lib.hid hc3;have HOR:=Lib.hid hok;obtain⟨z0,z1,z2,z3,z4⟩:=ruleZ_cells HR3.out.r0;have g0:=Lib.frozen_of_heap HR3.out.r0 0;have g1:=Lib.frozen_of_heap HR3.out.r0 1;have g2:=Lib.frozen_of_heap HR3.out.r0 2;have g3:=Lib.frozen_of_heap HR3.out.r0 3;have g4:=Lib.frozen_of_heap HR3.out.r0 4;have c1:w3.cell? ⟨w.heap.size+1,0,none⟩=some (.int .i64 0):=(by rw[Lib.cell_of_heap HR3.out.r1];rfl);have c2:w3.cell? ⟨w.heap.size+1+1,0,none⟩=some (.int .i64 0):=(by rw[Lib.cell_of_heap HR3.out.r2];rfl);have f1:w3.frozen? ⟨w.heap.size+1,0,none⟩=false:=Lib.frozen_of_heap HR3.out.r1 0;have f2:w3.frozen? ⟨w.heap.size+1+1,0,none⟩=false:=Lib.frozen_of_heap HR3.out.r2 0;clear hc3 hok hb3))
     obtain⟨e0,e1,e2,e3,e4⟩:=res_put (AS:=AS) (m:=r.amt) (e:=r.til.isSome) (u:=(r.til.getD 0:Nat)) HR3.out HC3.out hz3 rfl
     first
      | exact ln_done HX.out e3 e0 e1 e2 e4 HOR.out HAS.out rfl rfl rfl rfl rfl rfl
      | exact ln_done rfl e3 e0 e1 e2 e4 HOR.out HAS.out rfl rfl rfl rfl rfl rfl
end Go.Proofs.YtannhfnpigiggaaGreatDoor
